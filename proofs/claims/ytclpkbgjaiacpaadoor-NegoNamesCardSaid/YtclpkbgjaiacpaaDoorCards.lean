/-
  DERIVED. GIVEN WITH THE SEED: THE CARDS: each row of YtclpkbgjaiacpaaDoorRows.lean that lists a variable, with what it lists TIED to the program's text (the seventh form; the later family's looks); each row that meets fmt, with fmt's text TOLD by the authors' own Lean function (tested against real Go, not proved from fmt's source: count such statements apart). THE CARD IS WHAT COUNTS. Prove the row's statement (the work); the ties are given (YtclpkbgjaiacpaaDoorTie.lean); close each card by the builder's one call (the guide's Derived/Test/ToyasCard.lean, 'card_holds'). Laid BY PROGRAM, IN A SANDBOX (cutbox-door.mjs). By AI agents, Wed Nov 11 2026. No macro, syntax, notation, axiom, sorry.
-/
import Derived.Test.YtclpkbgjaiacpaaDoorRows
import GoSem.ClaimSeven
namespace Go.Proofs.YtclpkbgjaiacpaaDoor
namespace Rows

/-- THE TIED CARD OF 'vitrinelaw24.HostForms'. -/
def hostFormsCard : Claim7 := { stood := { row := hostFormsRow, standIns := [], harness := (true, "cf8d8f94433d9e04a7fa4535abf60dc28161ea174b184a94a536792055e6af8a"), looks := true }, kinds := [], alts := [], laidByText := true, laidKinds := [.data], laidTests := true, laidLooks := .later }
def HostFormsCardSaid : Prop := Claim7.holds Tryd.pinned (.plain (OpenSpec.ofChange hostFormsSpec)) hostFormsCard

/-- THE TIED CARD OF 'vitrinelaw24.HostAnswers'. -/
def hostAnswersCard : Claim7 := { stood := { row := hostAnswersRow, standIns := [], harness := (true, "cf8d8f94433d9e04a7fa4535abf60dc28161ea174b184a94a536792055e6af8a"), looks := true }, kinds := [], alts := [], laidByText := true, laidKinds := [.data], laidTests := true, laidLooks := .later }
def HostAnswersCardSaid : Prop := Claim7.holds Tryd.pinned (.plain (OpenSpec.ofChange hostAnswersSpec)) hostAnswersCard

/-- THE TIED CARD OF 'vitrinelaw10.NegoNames'. -/
def negoNamesCard : Claim7 := { stood := { row := negoNamesRow, standIns := [], harness := (true, "cf8d8f94433d9e04a7fa4535abf60dc28161ea174b184a94a536792055e6af8a"), looks := true }, kinds := [], alts := [], laidByText := true, laidKinds := [.data], laidTests := true, laidLooks := .later }
def NegoNamesCardSaid : Prop := Claim7.holds Tryd.pinned (.plain (OpenSpec.ofChange negoNamesSpec)) negoNamesCard

/-- THE TIED CARD OF 'vitrinelaw28.TapeParses'. -/
def tapeParsesCard : Claim7 := { stood := { row := tapeParsesRow, standIns := [], harness := (true, "cf8d8f94433d9e04a7fa4535abf60dc28161ea174b184a94a536792055e6af8a"), looks := true }, kinds := [], alts := [], laidByText := true, laidKinds := [.data, .data, .data, .data, .sentinel, .sentinel, .pinned], laidTests := true, laidLooks := .later }
def TapeParsesCardSaid : Prop := Claim7.holds Tryd.pinned (.plain (OpenSpec.ofChange tapeParsesSpec)) tapeParsesCard

/-- THE TIED CARD OF 'vitrinelaw28.TapeTexts'. -/
def tapeTextsCard : Claim7 := { stood := { row := tapeTextsRow, standIns := [], harness := (true, "cf8d8f94433d9e04a7fa4535abf60dc28161ea174b184a94a536792055e6af8a"), looks := true }, kinds := [], alts := [], laidByText := true, laidKinds := [.data, .data, .data, .data, .sentinel, .sentinel, .pinned], laidTests := true, laidLooks := .later }
def TapeTextsCardSaid : Prop := Claim7.holds Tryd.pinned (.plain (OpenSpec.ofChange tapeTextsSpec)) tapeTextsCard

/-- THE SECOND FORM's CARD OF 'vitrinelaw24.HostForms'. -/
def hostFormsUptoCard : Claim7 := { stood := { row := hostFormsUptoRow, standIns := [], harness := (true, "cf8d8f94433d9e04a7fa4535abf60dc28161ea174b184a94a536792055e6af8a"), looks := true }, kinds := [], alts := [], laidByText := true, laidKinds := [.data], laidTests := true, laidLooks := .later }
def HostFormsUptoCardSaid : Prop := Claim7.holds Tryd.pinned (.plain (OpenSpec.upto hostFormsSpec)) hostFormsUptoCard

/-- THE SECOND FORM's CARD OF 'vitrinelaw24.HostAnswers'. -/
def hostAnswersUptoCard : Claim7 := { stood := { row := hostAnswersUptoRow, standIns := [], harness := (true, "cf8d8f94433d9e04a7fa4535abf60dc28161ea174b184a94a536792055e6af8a"), looks := true }, kinds := [], alts := [], laidByText := true, laidKinds := [.data], laidTests := true, laidLooks := .later }
def HostAnswersUptoCardSaid : Prop := Claim7.holds Tryd.pinned (.plain (OpenSpec.upto hostAnswersSpec)) hostAnswersUptoCard

/-- THE SECOND FORM's CARD OF 'vitrinelaw10.NegoNames'. -/
def negoNamesUptoCard : Claim7 := { stood := { row := negoNamesUptoRow, standIns := [], harness := (true, "cf8d8f94433d9e04a7fa4535abf60dc28161ea174b184a94a536792055e6af8a"), looks := true }, kinds := [], alts := [], laidByText := true, laidKinds := [.data], laidTests := true, laidLooks := .later }
def NegoNamesUptoCardSaid : Prop := Claim7.holds Tryd.pinned (.plain (OpenSpec.upto negoNamesSpec)) negoNamesUptoCard

/-- THE SECOND FORM's CARD OF 'vitrinelaw28.TapeParses'. -/
def tapeParsesUptoCard : Claim7 := { stood := { row := tapeParsesUptoRow, standIns := [], harness := (true, "cf8d8f94433d9e04a7fa4535abf60dc28161ea174b184a94a536792055e6af8a"), looks := true }, kinds := [], alts := [], laidByText := true, laidKinds := [.data, .data, .data, .data, .sentinel, .sentinel, .pinned], laidTests := true, laidLooks := .later }
def TapeParsesUptoCardSaid : Prop := Claim7.holds Tryd.pinned (.plain (OpenSpec.upto tapeParsesSpec)) tapeParsesUptoCard

/-- THE SECOND FORM's CARD OF 'vitrinelaw28.TapeTexts'. -/
def tapeTextsUptoCard : Claim7 := { stood := { row := tapeTextsUptoRow, standIns := [], harness := (true, "cf8d8f94433d9e04a7fa4535abf60dc28161ea174b184a94a536792055e6af8a"), looks := true }, kinds := [], alts := [], laidByText := true, laidKinds := [.data, .data, .data, .data, .sentinel, .sentinel, .pinned], laidTests := true, laidLooks := .later }
def TapeTextsUptoCardSaid : Prop := Claim7.holds Tryd.pinned (.plain (OpenSpec.upto tapeTextsSpec)) tapeTextsUptoCard
end Rows
end Go.Proofs.YtclpkbgjaiacpaaDoor
