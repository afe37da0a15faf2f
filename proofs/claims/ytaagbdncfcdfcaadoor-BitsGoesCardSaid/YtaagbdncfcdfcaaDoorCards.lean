/-
  DERIVED. GIVEN WITH THE SEED: THE CARDS: each row of YtaagbdncfcdfcaaDoorRows.lean that lists a variable, with what it lists TIED to the program's text (the seventh form; the later family's looks); each row that meets fmt, with fmt's text TOLD by the authors' own Lean function (tested against real Go, not proved from fmt's source: count such statements apart). THE CARD IS WHAT COUNTS. Prove the row's statement (the work); the ties are given (YtaagbdncfcdfcaaDoorTie.lean); close each card by the builder's one call (the guide's Derived/Test/ToyasCard.lean, 'card_holds'). Laid BY PROGRAM, IN A SANDBOX (cutbox-door.mjs). By AI agents, Wed Nov 11 2026. No macro, syntax, notation, axiom, sorry.
-/
import Derived.Test.YtaagbdncfcdfcaaDoorRows
import GoSem.ClaimSeven
namespace Go.Proofs.YtaagbdncfcdfcaaDoor
namespace Rows

/-- THE TIED CARD OF 'augurlaw01.BitsNames'. -/
def bitsNamesCard : Claim7 := { stood := { row := bitsNamesRow, standIns := [], harness := (true, "0890d416069ca39c4984d415409b8fcb3e6ff1b7c9c4800c66741163c4ad7917"), looks := false }, kinds := [], alts := [], laidByText := true, laidKinds := [.data], laidTests := true, laidLooks := .later }
def BitsNamesCardSaid : Prop := Claim7.holds Tryd.pinned (.plain (OpenSpec.ofChange bitsNamesSpec)) bitsNamesCard

/-- THE TIED CARD OF 'augurlaw01.BitsNil'. -/
def bitsNilCard : Claim7 := { stood := { row := bitsNilRow, standIns := [], harness := (true, "0890d416069ca39c4984d415409b8fcb3e6ff1b7c9c4800c66741163c4ad7917"), looks := false }, kinds := [], alts := [], laidByText := true, laidKinds := [.data], laidTests := true, laidLooks := .later }
def BitsNilCardSaid : Prop := Claim7.holds Tryd.pinned (.plain (OpenSpec.ofChange bitsNilSpec)) bitsNilCard

/-- THE TIED CARD OF 'augurlaw01.BitsGoes'. -/
def bitsGoesCard : Claim7 := { stood := { row := bitsGoesRow, standIns := [], harness := (true, "0890d416069ca39c4984d415409b8fcb3e6ff1b7c9c4800c66741163c4ad7917"), looks := false }, kinds := [], alts := [], laidByText := true, laidKinds := [.data], laidTests := true, laidLooks := .later }
def BitsGoesCardSaid : Prop := Claim7.holds Tryd.pinned (.plain (OpenSpec.ofChange bitsGoesSpec)) bitsGoesCard

/-- THE TIED CARD OF 'augurlaw01.BitsDoes'. -/
def bitsDoesCard : Claim7 := { stood := { row := bitsDoesRow, standIns := [], harness := (true, "0890d416069ca39c4984d415409b8fcb3e6ff1b7c9c4800c66741163c4ad7917"), looks := false }, kinds := [], alts := [], laidByText := true, laidKinds := [.data], laidTests := true, laidLooks := .later }
def BitsDoesCardSaid : Prop := Claim7.holds Tryd.pinned (.plain (OpenSpec.ofChange bitsDoesSpec)) bitsDoesCard

/-- THE SECOND FORM's CARD OF 'augurlaw01.BitsNames'. -/
def bitsNamesUptoCard : Claim7 := { stood := { row := bitsNamesUptoRow, standIns := [], harness := (true, "0890d416069ca39c4984d415409b8fcb3e6ff1b7c9c4800c66741163c4ad7917"), looks := false }, kinds := [], alts := [], laidByText := true, laidKinds := [.data], laidTests := true, laidLooks := .later }
def BitsNamesUptoCardSaid : Prop := Claim7.holds Tryd.pinned (.plain (OpenSpec.upto bitsNamesSpec)) bitsNamesUptoCard

/-- THE SECOND FORM's CARD OF 'augurlaw01.BitsNil'. -/
def bitsNilUptoCard : Claim7 := { stood := { row := bitsNilUptoRow, standIns := [], harness := (true, "0890d416069ca39c4984d415409b8fcb3e6ff1b7c9c4800c66741163c4ad7917"), looks := false }, kinds := [], alts := [], laidByText := true, laidKinds := [.data], laidTests := true, laidLooks := .later }
def BitsNilUptoCardSaid : Prop := Claim7.holds Tryd.pinned (.plain (OpenSpec.upto bitsNilSpec)) bitsNilUptoCard

/-- THE SECOND FORM's CARD OF 'augurlaw01.BitsGoes'. -/
def bitsGoesUptoCard : Claim7 := { stood := { row := bitsGoesUptoRow, standIns := [], harness := (true, "0890d416069ca39c4984d415409b8fcb3e6ff1b7c9c4800c66741163c4ad7917"), looks := false }, kinds := [], alts := [], laidByText := true, laidKinds := [.data], laidTests := true, laidLooks := .later }
def BitsGoesUptoCardSaid : Prop := Claim7.holds Tryd.pinned (.plain (OpenSpec.upto bitsGoesSpec)) bitsGoesUptoCard

/-- THE SECOND FORM's CARD OF 'augurlaw01.BitsDoes'. -/
def bitsDoesUptoCard : Claim7 := { stood := { row := bitsDoesUptoRow, standIns := [], harness := (true, "0890d416069ca39c4984d415409b8fcb3e6ff1b7c9c4800c66741163c4ad7917"), looks := false }, kinds := [], alts := [], laidByText := true, laidKinds := [.data], laidTests := true, laidLooks := .later }
def BitsDoesUptoCardSaid : Prop := Claim7.holds Tryd.pinned (.plain (OpenSpec.upto bitsDoesSpec)) bitsDoesUptoCard
end Rows
end Go.Proofs.YtaagbdncfcdfcaaDoor
