/-
  DERIVED. GIVEN WITH THE SEED: THE CARDS: each row of YtnkdeglckmogcaaDoorRows.lean that lists a variable, with what it lists TIED to the program's text (the seventh form; the later family's looks); each row that meets fmt, with fmt's text TOLD by the authors' own Lean function (tested against real Go, not proved from fmt's source: count such statements apart). THE CARD IS WHAT COUNTS. Prove the row's statement (the work); the ties are given (YtnkdeglckmogcaaDoorTie.lean); close each card by the builder's one call (the guide's Derived/Test/ToyasCard.lean, 'card_holds'). Laid BY PROGRAM, IN A SANDBOX (cutbox-door.mjs). By AI agents, Wed Nov 11 2026. No macro, syntax, notation, axiom, sorry.
-/
import Derived.Test.YtnkdeglckmogcaaDoorRows
import GoSem.ClaimSeven
namespace Go.Proofs.YtnkdeglckmogcaaDoor
namespace Rows

/-- THE TIED CARD OF 'medlarlaw05.TermStays'. -/
def termStaysCard : Claim7 := { stood := { row := termStaysRow, standIns := [], harness := (true, "2b3c7a7308f961f53eea615ae4588c647821db14b72a6c365a7941a93dbe8849"), looks := false }, kinds := [], alts := [], laidByText := true, laidKinds := [.data, .data, .data, .data], laidTests := true, laidLooks := .later }
def TermStaysCardSaid : Prop := Claim7.holds Tryd.pinned (.plain (OpenSpec.ofChange termStaysSpec)) termStaysCard

/-- THE TIED CARD OF 'medlarlaw05.TermDoes'. -/
def termDoesCard : Claim7 := { stood := { row := termDoesRow, standIns := [], harness := (true, "2b3c7a7308f961f53eea615ae4588c647821db14b72a6c365a7941a93dbe8849"), looks := false }, kinds := [], alts := [], laidByText := true, laidKinds := [.data, .data, .data, .data], laidTests := true, laidLooks := .later }
def TermDoesCardSaid : Prop := Claim7.holds Tryd.pinned (.plain (OpenSpec.ofChange termDoesSpec)) termDoesCard

/-- THE TIED CARD OF 'medlarlaw05.TermOnce'. -/
def termOnceCard : Claim7 := { stood := { row := termOnceRow, standIns := [], harness := (true, "2b3c7a7308f961f53eea615ae4588c647821db14b72a6c365a7941a93dbe8849"), looks := false }, kinds := [], alts := [], laidByText := true, laidKinds := [.data, .data, .data, .data], laidTests := true, laidLooks := .later }
def TermOnceCardSaid : Prop := Claim7.holds Tryd.pinned (.plain (OpenSpec.ofChange termOnceSpec)) termOnceCard

/-- THE TIED CARD OF 'medlarlaw05.TermTells'. -/
def termTellsCard : Claim7 := { stood := { row := termTellsRow, standIns := [], harness := (true, "2b3c7a7308f961f53eea615ae4588c647821db14b72a6c365a7941a93dbe8849"), looks := false }, kinds := [], alts := [], laidByText := true, laidKinds := [.data, .data, .data, .data], laidTests := true, laidLooks := .later }
def TermTellsCardSaid : Prop := Claim7.holds Tryd.pinned (.plain (OpenSpec.ofChange termTellsSpec)) termTellsCard

/-- THE TIED CARD OF 'medlarlaw05.TermWithin'. -/
def termWithinCard : Claim7 := { stood := { row := termWithinRow, standIns := [], harness := (true, "2b3c7a7308f961f53eea615ae4588c647821db14b72a6c365a7941a93dbe8849"), looks := false }, kinds := [], alts := [], laidByText := true, laidKinds := [.data, .data, .data, .data], laidTests := true, laidLooks := .later }
def TermWithinCardSaid : Prop := Claim7.holds Tryd.pinned (.plain (OpenSpec.ofChange termWithinSpec)) termWithinCard

/-- THE SECOND FORM's CARD OF 'medlarlaw05.TermStays'. -/
def termStaysUptoCard : Claim7 := { stood := { row := termStaysUptoRow, standIns := [], harness := (true, "2b3c7a7308f961f53eea615ae4588c647821db14b72a6c365a7941a93dbe8849"), looks := false }, kinds := [], alts := [], laidByText := true, laidKinds := [.data, .data, .data, .data], laidTests := true, laidLooks := .later }
def TermStaysUptoCardSaid : Prop := Claim7.holds Tryd.pinned (.plain (OpenSpec.upto termStaysSpec)) termStaysUptoCard

/-- THE SECOND FORM's CARD OF 'medlarlaw05.TermDoes'. -/
def termDoesUptoCard : Claim7 := { stood := { row := termDoesUptoRow, standIns := [], harness := (true, "2b3c7a7308f961f53eea615ae4588c647821db14b72a6c365a7941a93dbe8849"), looks := false }, kinds := [], alts := [], laidByText := true, laidKinds := [.data, .data, .data, .data], laidTests := true, laidLooks := .later }
def TermDoesUptoCardSaid : Prop := Claim7.holds Tryd.pinned (.plain (OpenSpec.upto termDoesSpec)) termDoesUptoCard

/-- THE SECOND FORM's CARD OF 'medlarlaw05.TermOnce'. -/
def termOnceUptoCard : Claim7 := { stood := { row := termOnceUptoRow, standIns := [], harness := (true, "2b3c7a7308f961f53eea615ae4588c647821db14b72a6c365a7941a93dbe8849"), looks := false }, kinds := [], alts := [], laidByText := true, laidKinds := [.data, .data, .data, .data], laidTests := true, laidLooks := .later }
def TermOnceUptoCardSaid : Prop := Claim7.holds Tryd.pinned (.plain (OpenSpec.upto termOnceSpec)) termOnceUptoCard

/-- THE SECOND FORM's CARD OF 'medlarlaw05.TermTells'. -/
def termTellsUptoCard : Claim7 := { stood := { row := termTellsUptoRow, standIns := [], harness := (true, "2b3c7a7308f961f53eea615ae4588c647821db14b72a6c365a7941a93dbe8849"), looks := false }, kinds := [], alts := [], laidByText := true, laidKinds := [.data, .data, .data, .data], laidTests := true, laidLooks := .later }
def TermTellsUptoCardSaid : Prop := Claim7.holds Tryd.pinned (.plain (OpenSpec.upto termTellsSpec)) termTellsUptoCard

/-- THE SECOND FORM's CARD OF 'medlarlaw05.TermWithin'. -/
def termWithinUptoCard : Claim7 := { stood := { row := termWithinUptoRow, standIns := [], harness := (true, "2b3c7a7308f961f53eea615ae4588c647821db14b72a6c365a7941a93dbe8849"), looks := false }, kinds := [], alts := [], laidByText := true, laidKinds := [.data, .data, .data, .data], laidTests := true, laidLooks := .later }
def TermWithinUptoCardSaid : Prop := Claim7.holds Tryd.pinned (.plain (OpenSpec.upto termWithinSpec)) termWithinUptoCard
end Rows
end Go.Proofs.YtnkdeglckmogcaaDoor
