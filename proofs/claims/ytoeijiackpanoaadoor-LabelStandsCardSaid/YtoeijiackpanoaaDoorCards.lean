/-
  DERIVED. GIVEN WITH THE SEED: THE CARDS: each row of YtoeijiackpanoaaDoorRows.lean that lists a variable, with what it lists TIED to the program's text (the seventh form; the later family's looks); each row that meets fmt, with fmt's text TOLD by the authors' own Lean function (tested against real Go, not proved from fmt's source: count such statements apart). THE CARD IS WHAT COUNTS. Prove the row's statement (the work); the ties are given (YtoeijiackpanoaaDoorTie.lean); close each card by the builder's one call (the guide's Derived/Test/ToyasCard.lean, 'card_holds'). Laid BY PROGRAM, IN A SANDBOX (cutbox-door.mjs). By AI agents, Wed Nov 11 2026. No macro, syntax, notation, axiom, sorry.
-/
import Derived.Test.YtoeijiackpanoaaDoorRows
import GoSem.ClaimSeven
namespace Go.Proofs.YtoeijiackpanoaaDoor
namespace Rows

/-- THE TIED CARD OF 'medlarlaw13.LabelApart'. -/
def labelApartCard : Claim7 := { stood := { row := labelApartRow, standIns := [], harness := (true, "784844ef6fc6b599c75839209ac5d297390b9fb230f49b8b6f4720f964f81d8f"), looks := false }, kinds := [], alts := [], laidByText := true, laidKinds := [.data, .data, .data, .data], laidTests := true, laidLooks := .later }
def LabelApartCardSaid : Prop := Claim7.holds Tryd.pinned (.plain (OpenSpec.ofChange labelApartSpec)) labelApartCard

/-- THE TIED CARD OF 'medlarlaw13.LabelUp'. -/
def labelUpCard : Claim7 := { stood := { row := labelUpRow, standIns := [], harness := (true, "784844ef6fc6b599c75839209ac5d297390b9fb230f49b8b6f4720f964f81d8f"), looks := false }, kinds := [], alts := [], laidByText := true, laidKinds := [.data, .data, .data, .data], laidTests := true, laidLooks := .later }
def LabelUpCardSaid : Prop := Claim7.holds Tryd.pinned (.plain (OpenSpec.ofChange labelUpSpec)) labelUpCard

/-- THE TIED CARD OF 'medlarlaw13.LabelDoes'. -/
def labelDoesCard : Claim7 := { stood := { row := labelDoesRow, standIns := [], harness := (true, "784844ef6fc6b599c75839209ac5d297390b9fb230f49b8b6f4720f964f81d8f"), looks := false }, kinds := [], alts := [], laidByText := true, laidKinds := [.data, .data, .data, .data], laidTests := true, laidLooks := .later }
def LabelDoesCardSaid : Prop := Claim7.holds Tryd.pinned (.plain (OpenSpec.ofChange labelDoesSpec)) labelDoesCard

/-- THE TIED CARD OF 'medlarlaw13.LabelWalks'. -/
def labelWalksCard : Claim7 := { stood := { row := labelWalksRow, standIns := [], harness := (true, "784844ef6fc6b599c75839209ac5d297390b9fb230f49b8b6f4720f964f81d8f"), looks := false }, kinds := [], alts := [], laidByText := true, laidKinds := [.data, .data, .data, .data], laidTests := true, laidLooks := .later }
def LabelWalksCardSaid : Prop := Claim7.holds Tryd.pinned (.plain (OpenSpec.ofChange labelWalksSpec)) labelWalksCard

/-- THE TIED CARD OF 'medlarlaw13.LabelStands'. -/
def labelStandsCard : Claim7 := { stood := { row := labelStandsRow, standIns := [], harness := (true, "784844ef6fc6b599c75839209ac5d297390b9fb230f49b8b6f4720f964f81d8f"), looks := false }, kinds := [], alts := [], laidByText := true, laidKinds := [.data, .data, .data, .data], laidTests := true, laidLooks := .later }
def LabelStandsCardSaid : Prop := Claim7.holds Tryd.pinned (.plain (OpenSpec.ofChange labelStandsSpec)) labelStandsCard

/-- THE SECOND FORM's CARD OF 'medlarlaw13.LabelApart'. -/
def labelApartUptoCard : Claim7 := { stood := { row := labelApartUptoRow, standIns := [], harness := (true, "784844ef6fc6b599c75839209ac5d297390b9fb230f49b8b6f4720f964f81d8f"), looks := false }, kinds := [], alts := [], laidByText := true, laidKinds := [.data, .data, .data, .data], laidTests := true, laidLooks := .later }
def LabelApartUptoCardSaid : Prop := Claim7.holds Tryd.pinned (.plain (OpenSpec.upto labelApartSpec)) labelApartUptoCard

/-- THE SECOND FORM's CARD OF 'medlarlaw13.LabelUp'. -/
def labelUpUptoCard : Claim7 := { stood := { row := labelUpUptoRow, standIns := [], harness := (true, "784844ef6fc6b599c75839209ac5d297390b9fb230f49b8b6f4720f964f81d8f"), looks := false }, kinds := [], alts := [], laidByText := true, laidKinds := [.data, .data, .data, .data], laidTests := true, laidLooks := .later }
def LabelUpUptoCardSaid : Prop := Claim7.holds Tryd.pinned (.plain (OpenSpec.upto labelUpSpec)) labelUpUptoCard

/-- THE SECOND FORM's CARD OF 'medlarlaw13.LabelDoes'. -/
def labelDoesUptoCard : Claim7 := { stood := { row := labelDoesUptoRow, standIns := [], harness := (true, "784844ef6fc6b599c75839209ac5d297390b9fb230f49b8b6f4720f964f81d8f"), looks := false }, kinds := [], alts := [], laidByText := true, laidKinds := [.data, .data, .data, .data], laidTests := true, laidLooks := .later }
def LabelDoesUptoCardSaid : Prop := Claim7.holds Tryd.pinned (.plain (OpenSpec.upto labelDoesSpec)) labelDoesUptoCard

/-- THE SECOND FORM's CARD OF 'medlarlaw13.LabelWalks'. -/
def labelWalksUptoCard : Claim7 := { stood := { row := labelWalksUptoRow, standIns := [], harness := (true, "784844ef6fc6b599c75839209ac5d297390b9fb230f49b8b6f4720f964f81d8f"), looks := false }, kinds := [], alts := [], laidByText := true, laidKinds := [.data, .data, .data, .data], laidTests := true, laidLooks := .later }
def LabelWalksUptoCardSaid : Prop := Claim7.holds Tryd.pinned (.plain (OpenSpec.upto labelWalksSpec)) labelWalksUptoCard

/-- THE SECOND FORM's CARD OF 'medlarlaw13.LabelStands'. -/
def labelStandsUptoCard : Claim7 := { stood := { row := labelStandsUptoRow, standIns := [], harness := (true, "784844ef6fc6b599c75839209ac5d297390b9fb230f49b8b6f4720f964f81d8f"), looks := false }, kinds := [], alts := [], laidByText := true, laidKinds := [.data, .data, .data, .data], laidTests := true, laidLooks := .later }
def LabelStandsUptoCardSaid : Prop := Claim7.holds Tryd.pinned (.plain (OpenSpec.upto labelStandsSpec)) labelStandsUptoCard
end Rows
end Go.Proofs.YtoeijiackpanoaaDoor
