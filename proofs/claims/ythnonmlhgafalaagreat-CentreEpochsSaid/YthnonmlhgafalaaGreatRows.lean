/-
  No cell of these rows narrows 'for every input' (looked for: loops, veiled, ifaces, maps, wideKeys, modest, calm, conditions, laid).
  DERIVED. THE GIVEN ROWS OF THIS SEAT. 11 by the template 'for every input the law returns true; each argument reads behind the call as it read before'; 0 by the template 'total and deterministic' (their statements: YthnonmlhgafalaaGreatTotals.lean).
  GIVEN WITH THE SEED: the statements are not yours to turn. If you find one false, say at which input.
  Laid BY PROGRAM, IN A SANDBOX (cutbox-rows.mjs): the forced cells as the released guide's own fill.sh prints them over the translation 9d8220a9cc63c7b7… (all of the seat's roots in one cut). By AI agents, Wed Nov 11 2026. No macro, syntax, notation, axiom, sorry.
-/
import Derived.Test.YthnonmlhgafalaaGreatChecked
import GoSem.Claim
import GoSem.ClaimJoined
import GoSem.ClaimMapViews
import Derived.JoinedTies
import Derived.KernelRfl
namespace Go.Proofs.YthnonmlhgafalaaGreat
/- THE CELL 'sum', in the pinned program and in every row, IS THE sha256 OF THE DUMP (.gsa) THAT YthnonmlhgafalaaGreatProg.lean LOADS. Nothing in Lean hashes anything: it is a label: what it is worth is what the hold of that sum in a sandbox is worth. -/
noncomputable def Tryz.pinned : Pinned := { name := "ythnonmlhgafalaagreat", sum := "9d8220a9cc63c7b78c66767d53c8a0e452787080708eac7ed0597166e12baa5e", checked := Tryz.checked }
namespace Rows
def none {H : Type} : Left H := { results := [], args := [] }

/-- 'medlarlaw20.CentreSends': WHATEVER THE INPUT: true; the input reads as it did. -/
def centreSendsSpec : ChangeSpec := { name := "centreSends", fn := fun _ => fun
  | [d1, d2] => { results := [.lit (.bool true)], args := [d1, d2] }
  | _ => none }
def centreSendsRow : OpenClaim := { program := "ythnonmlhgafalaagreat", sum := "9d8220a9cc63c7b78c66767d53c8a0e452787080708eac7ed0597166e12baa5e", func := "medlar/medlarlaw20.CentreSends", spec := "centreSends", unfollowed := true, recurses := true, plainKeys := false, apart := false }
def CentreSendsSaid : Prop := centreSendsRow.holds Tryz.pinned (OpenSpec.ofChange centreSendsSpec)

/-- ITS FALSE NEIGHBOUR: 'it returns false'. Refute it at one input. -/
def centreSendsWrong : ChangeSpec := { name := "centreSends", fn := fun _ => fun
  | [d1, d2] => { results := [.lit (.bool false)], args := [d1, d2] }
  | _ => none }
def CentreSendsWrongFalsely : Prop := centreSendsRow.holds Tryz.pinned (OpenSpec.ofChange centreSendsWrong)

/-- 'medlarlaw20.CentreApart': WHATEVER THE INPUT: true; the input reads as it did. -/
def centreApartSpec : ChangeSpec := { name := "centreApart", fn := fun _ => fun
  | [d1, d2, d3] => { results := [.lit (.bool true)], args := [d1, d2, d3] }
  | _ => none }
def centreApartRow : OpenClaim := { program := "ythnonmlhgafalaagreat", sum := "9d8220a9cc63c7b78c66767d53c8a0e452787080708eac7ed0597166e12baa5e", func := "medlar/medlarlaw20.CentreApart", spec := "centreApart", unfollowed := true, recurses := true, plainKeys := false, apart := false }
def CentreApartSaid : Prop := centreApartRow.holds Tryz.pinned (OpenSpec.ofChange centreApartSpec)

/-- ITS FALSE NEIGHBOUR: 'it returns false'. Refute it at one input. -/
def centreApartWrong : ChangeSpec := { name := "centreApart", fn := fun _ => fun
  | [d1, d2, d3] => { results := [.lit (.bool false)], args := [d1, d2, d3] }
  | _ => none }
def CentreApartWrongFalsely : Prop := centreApartRow.holds Tryz.pinned (OpenSpec.ofChange centreApartWrong)

/-- 'medlarlaw19.CoverSends': WHATEVER THE INPUT: true; the input reads as it did. -/
def coverSendsSpec : ChangeSpec := { name := "coverSends", fn := fun _ => fun
  | [d1, d2, d3, d4, d5, d6, d7] => { results := [.lit (.bool true)], args := [d1, d2, d3, d4, d5, d6, d7] }
  | _ => none }
def coverSendsRow : OpenClaim := { program := "ythnonmlhgafalaagreat", sum := "9d8220a9cc63c7b78c66767d53c8a0e452787080708eac7ed0597166e12baa5e", func := "medlar/medlarlaw19.CoverSends", spec := "coverSends", unfollowed := true, recurses := true, plainKeys := false, apart := false }
def CoverSendsSaid : Prop := coverSendsRow.holds Tryz.pinned (OpenSpec.ofChange coverSendsSpec)

/-- ITS FALSE NEIGHBOUR: 'it returns false'. Refute it at one input. -/
def coverSendsWrong : ChangeSpec := { name := "coverSends", fn := fun _ => fun
  | [d1, d2, d3, d4, d5, d6, d7] => { results := [.lit (.bool false)], args := [d1, d2, d3, d4, d5, d6, d7] }
  | _ => none }
def CoverSendsWrongFalsely : Prop := coverSendsRow.holds Tryz.pinned (OpenSpec.ofChange coverSendsWrong)

/-- 'medlarlaw19.CoverOpens': WHATEVER THE INPUT: true; the input reads as it did. -/
def coverOpensSpec : ChangeSpec := { name := "coverOpens", fn := fun _ => fun
  | [d1, d2, d3, d4, d5, d6] => { results := [.lit (.bool true)], args := [d1, d2, d3, d4, d5, d6] }
  | _ => none }
def coverOpensRow : OpenClaim := { program := "ythnonmlhgafalaagreat", sum := "9d8220a9cc63c7b78c66767d53c8a0e452787080708eac7ed0597166e12baa5e", func := "medlar/medlarlaw19.CoverOpens", spec := "coverOpens", unfollowed := true, recurses := true, plainKeys := false, apart := false }
def CoverOpensSaid : Prop := coverOpensRow.holds Tryz.pinned (OpenSpec.ofChange coverOpensSpec)

/-- ITS FALSE NEIGHBOUR: 'it returns false'. Refute it at one input. -/
def coverOpensWrong : ChangeSpec := { name := "coverOpens", fn := fun _ => fun
  | [d1, d2, d3, d4, d5, d6] => { results := [.lit (.bool false)], args := [d1, d2, d3, d4, d5, d6] }
  | _ => none }
def CoverOpensWrongFalsely : Prop := coverOpensRow.holds Tryz.pinned (OpenSpec.ofChange coverOpensWrong)

/-- 'medlarlaw19.CoverReads': WHATEVER THE INPUT: true; the input reads as it did. -/
def coverReadsSpec : ChangeSpec := { name := "coverReads", fn := fun _ => fun
  | [d1, d2, d3, d4, d5, d6, d7] => { results := [.lit (.bool true)], args := [d1, d2, d3, d4, d5, d6, d7] }
  | _ => none }
def coverReadsRow : OpenClaim := { program := "ythnonmlhgafalaagreat", sum := "9d8220a9cc63c7b78c66767d53c8a0e452787080708eac7ed0597166e12baa5e", func := "medlar/medlarlaw19.CoverReads", spec := "coverReads", unfollowed := true, recurses := true, plainKeys := false, apart := false }
def CoverReadsSaid : Prop := coverReadsRow.holds Tryz.pinned (OpenSpec.ofChange coverReadsSpec)

/-- ITS FALSE NEIGHBOUR: 'it returns false'. Refute it at one input. -/
def coverReadsWrong : ChangeSpec := { name := "coverReads", fn := fun _ => fun
  | [d1, d2, d3, d4, d5, d6, d7] => { results := [.lit (.bool false)], args := [d1, d2, d3, d4, d5, d6, d7] }
  | _ => none }
def CoverReadsWrongFalsely : Prop := coverReadsRow.holds Tryz.pinned (OpenSpec.ofChange coverReadsWrong)

/-- 'medlarlaw19.CoverSome': WHATEVER THE INPUT: true; the input reads as it did. -/
def coverSomeSpec : ChangeSpec := { name := "coverSome", fn := fun _ => fun
  | [d1, d2, d3, d4, d5, d6] => { results := [.lit (.bool true)], args := [d1, d2, d3, d4, d5, d6] }
  | _ => none }
def coverSomeRow : OpenClaim := { program := "ythnonmlhgafalaagreat", sum := "9d8220a9cc63c7b78c66767d53c8a0e452787080708eac7ed0597166e12baa5e", func := "medlar/medlarlaw19.CoverSome", spec := "coverSome", unfollowed := true, recurses := true, plainKeys := false, apart := false }
def CoverSomeSaid : Prop := coverSomeRow.holds Tryz.pinned (OpenSpec.ofChange coverSomeSpec)

/-- ITS FALSE NEIGHBOUR: 'it returns false'. Refute it at one input. -/
def coverSomeWrong : ChangeSpec := { name := "coverSome", fn := fun _ => fun
  | [d1, d2, d3, d4, d5, d6] => { results := [.lit (.bool false)], args := [d1, d2, d3, d4, d5, d6] }
  | _ => none }
def CoverSomeWrongFalsely : Prop := coverSomeRow.holds Tryz.pinned (OpenSpec.ofChange coverSomeWrong)

/-- 'medlarlaw20.CentreEpochs': WHATEVER THE INPUT: true; the input reads as it did. -/
def centreEpochsSpec : ChangeSpec := { name := "centreEpochs", fn := fun _ => fun
  | [d1, d2, d3, d4, d5, d6] => { results := [.lit (.bool true)], args := [d1, d2, d3, d4, d5, d6] }
  | _ => none }
def centreEpochsRow : OpenClaim := { program := "ythnonmlhgafalaagreat", sum := "9d8220a9cc63c7b78c66767d53c8a0e452787080708eac7ed0597166e12baa5e", func := "medlar/medlarlaw20.CentreEpochs", spec := "centreEpochs", inPlace := ["slices.overlaps[uint64]"], unfollowed := true, recurses := true, plainKeys := false, apart := false }
def CentreEpochsSaid : Prop := centreEpochsRow.holds Tryz.pinned (OpenSpec.ofChange centreEpochsSpec)

/-- ITS FALSE NEIGHBOUR: 'it returns false'. Refute it at one input. -/
def centreEpochsWrong : ChangeSpec := { name := "centreEpochs", fn := fun _ => fun
  | [d1, d2, d3, d4, d5, d6] => { results := [.lit (.bool false)], args := [d1, d2, d3, d4, d5, d6] }
  | _ => none }
def CentreEpochsWrongFalsely : Prop := centreEpochsRow.holds Tryz.pinned (OpenSpec.ofChange centreEpochsWrong)

/-- 'medlarlaw20.CentreOnce': WHATEVER THE INPUT: true; the input reads as it did. -/
def centreOnceSpec : ChangeSpec := { name := "centreOnce", fn := fun _ => fun
  | [d1, d2, d3, d4] => { results := [.lit (.bool true)], args := [d1, d2, d3, d4] }
  | _ => none }
def centreOnceRow : OpenClaim := { program := "ythnonmlhgafalaagreat", sum := "9d8220a9cc63c7b78c66767d53c8a0e452787080708eac7ed0597166e12baa5e", func := "medlar/medlarlaw20.CentreOnce", spec := "centreOnce", inPlace := ["slices.overlaps[uint64]"], unfollowed := true, recurses := true, plainKeys := false, apart := false }
def CentreOnceSaid : Prop := centreOnceRow.holds Tryz.pinned (OpenSpec.ofChange centreOnceSpec)

/-- ITS FALSE NEIGHBOUR: 'it returns false'. Refute it at one input. -/
def centreOnceWrong : ChangeSpec := { name := "centreOnce", fn := fun _ => fun
  | [d1, d2, d3, d4] => { results := [.lit (.bool false)], args := [d1, d2, d3, d4] }
  | _ => none }
def CentreOnceWrongFalsely : Prop := centreOnceRow.holds Tryz.pinned (OpenSpec.ofChange centreOnceWrong)

/-- 'medlarlaw20.CentreReads': WHATEVER THE INPUT: true; the input reads as it did. -/
def centreReadsSpec : ChangeSpec := { name := "centreReads", fn := fun _ => fun
  | [d1, d2, d3] => { results := [.lit (.bool true)], args := [d1, d2, d3] }
  | _ => none }
def centreReadsRow : OpenClaim := { program := "ythnonmlhgafalaagreat", sum := "9d8220a9cc63c7b78c66767d53c8a0e452787080708eac7ed0597166e12baa5e", func := "medlar/medlarlaw20.CentreReads", spec := "centreReads", unfollowed := true, recurses := true, plainKeys := false, apart := false }
def CentreReadsSaid : Prop := centreReadsRow.holds Tryz.pinned (OpenSpec.ofChange centreReadsSpec)

/-- ITS FALSE NEIGHBOUR: 'it returns false'. Refute it at one input. -/
def centreReadsWrong : ChangeSpec := { name := "centreReads", fn := fun _ => fun
  | [d1, d2, d3] => { results := [.lit (.bool false)], args := [d1, d2, d3] }
  | _ => none }
def CentreReadsWrongFalsely : Prop := centreReadsRow.holds Tryz.pinned (OpenSpec.ofChange centreReadsWrong)

/-- 'medlarlaw20.CentreMakes': WHATEVER THE INPUT: true; the input reads as it did. -/
def centreMakesSpec : ChangeSpec := { name := "centreMakes", fn := fun _ => fun
  | [d1, d2, d3, d4, d5, d6, d7, d8] => { results := [.lit (.bool true)], args := [d1, d2, d3, d4, d5, d6, d7, d8] }
  | _ => none }
def centreMakesRow : OpenClaim := { program := "ythnonmlhgafalaagreat", sum := "9d8220a9cc63c7b78c66767d53c8a0e452787080708eac7ed0597166e12baa5e", func := "medlar/medlarlaw20.CentreMakes", spec := "centreMakes", inPlace := ["slices.overlaps[uint64]"], unfollowed := true, recurses := true, plainKeys := false, apart := false }
def CentreMakesSaid : Prop := centreMakesRow.holds Tryz.pinned (OpenSpec.ofChange centreMakesSpec)

/-- ITS FALSE NEIGHBOUR: 'it returns false'. Refute it at one input. -/
def centreMakesWrong : ChangeSpec := { name := "centreMakes", fn := fun _ => fun
  | [d1, d2, d3, d4, d5, d6, d7, d8] => { results := [.lit (.bool false)], args := [d1, d2, d3, d4, d5, d6, d7, d8] }
  | _ => none }
def CentreMakesWrongFalsely : Prop := centreMakesRow.holds Tryz.pinned (OpenSpec.ofChange centreMakesWrong)

/-- 'medlarlaw19.CoverSeals': WHATEVER THE INPUT: true; the input reads as it did. -/
def coverSealsSpec : ChangeSpec := { name := "coverSeals", fn := fun _ => fun
  | [d1, d2, d3, d4] => { results := [.lit (.bool true)], args := [d1, d2, d3, d4] }
  | _ => none }
def coverSealsRow : OpenClaim := { program := "ythnonmlhgafalaagreat", sum := "9d8220a9cc63c7b78c66767d53c8a0e452787080708eac7ed0597166e12baa5e", func := "medlar/medlarlaw19.CoverSeals", spec := "coverSeals", unfollowed := true, recurses := true, plainKeys := false, apart := false }
def CoverSealsSaid : Prop := coverSealsRow.holds Tryz.pinned (OpenSpec.ofChange coverSealsSpec)

/-- ITS FALSE NEIGHBOUR: 'it returns false'. Refute it at one input. -/
def coverSealsWrong : ChangeSpec := { name := "coverSeals", fn := fun _ => fun
  | [d1, d2, d3, d4] => { results := [.lit (.bool false)], args := [d1, d2, d3, d4] }
  | _ => none }
def CoverSealsWrongFalsely : Prop := coverSealsRow.holds Tryz.pinned (OpenSpec.ofChange coverSealsWrong)

/- THE SECOND FORM. 'bulk': how many values and letters a reading holds, each counted each time it is reached (what is shared counts as often as it is met; a slice's spare places count too). A statement '..UptoSaid' is the law's where the arguments, and the package variables that the reading takes, are together of bulk at most 1048576: NARROWER than '..Said'. Prove '..Said' where nothing that the law and all that it calls make is longer than what came in: it says more and counts as full. Else prove '..UptoSaid'. A law counts once. -/
mutual
def uptoBulk {H : Type} : DataW H → Nat
  | .lit (.string bytes) => bytes.length + 1
  | .lit _ => 1
  | .nil => 1
  | .ptr d => uptoBulk d + 1
  | .slice elems spare => uptoBulkAll elems + uptoBulkAll spare + 1
  | .agg parts => uptoBulkAll parts + 1
  | .iface _ d => uptoBulk d + 1
  | .map entries => uptoBulkEntries entries + 1
  | .held _ => 1
def uptoBulkAll {H : Type} : List (DataW H) → Nat
  | [] => 0
  | d :: r => uptoBulk d + uptoBulkAll r
def uptoBulkEntries {H : Type} : List (Lit × DataW H) → Nat
  | [] => 0
  | x :: r => uptoBulkEntry x + uptoBulkEntries r
def uptoBulkEntry {H : Type} : Lit × DataW H → Nat
  | (.string bytes, d) => bytes.length + uptoBulk d + 1
  | (_, d) => uptoBulk d + 1
 end
def uptoSmall : (H : Type) → List (DataW H) → Bool := fun _ ds => decide (uptoBulkAll ds ≤ 1048576)
def OpenSpec.upto (s : _root_.Go.ChangeSpec) : _root_.Go.OpenSpec := { _root_.Go.OpenSpec.ofChange s with cond := some uptoSmall }

/-- 'medlarlaw20.CentreSends', WHERE WHAT IT READS IS OF BULK AT MOST 1048576: true; the input reads as it did. -/
def centreSendsUptoRow : OpenClaim := { program := "ythnonmlhgafalaagreat", sum := "9d8220a9cc63c7b78c66767d53c8a0e452787080708eac7ed0597166e12baa5e", func := "medlar/medlarlaw20.CentreSends", spec := "centreSends", unfollowed := true, recurses := true, plainKeys := false, apart := false, narrowed := true }
def CentreSendsUptoSaid : Prop := centreSendsUptoRow.holds Tryz.pinned (OpenSpec.upto centreSendsSpec)

/-- 'medlarlaw20.CentreApart', WHERE WHAT IT READS IS OF BULK AT MOST 1048576: true; the input reads as it did. -/
def centreApartUptoRow : OpenClaim := { program := "ythnonmlhgafalaagreat", sum := "9d8220a9cc63c7b78c66767d53c8a0e452787080708eac7ed0597166e12baa5e", func := "medlar/medlarlaw20.CentreApart", spec := "centreApart", unfollowed := true, recurses := true, plainKeys := false, apart := false, narrowed := true }
def CentreApartUptoSaid : Prop := centreApartUptoRow.holds Tryz.pinned (OpenSpec.upto centreApartSpec)

/-- 'medlarlaw19.CoverSends', WHERE WHAT IT READS IS OF BULK AT MOST 1048576: true; the input reads as it did. -/
def coverSendsUptoRow : OpenClaim := { program := "ythnonmlhgafalaagreat", sum := "9d8220a9cc63c7b78c66767d53c8a0e452787080708eac7ed0597166e12baa5e", func := "medlar/medlarlaw19.CoverSends", spec := "coverSends", unfollowed := true, recurses := true, plainKeys := false, apart := false, narrowed := true }
def CoverSendsUptoSaid : Prop := coverSendsUptoRow.holds Tryz.pinned (OpenSpec.upto coverSendsSpec)

/-- 'medlarlaw19.CoverOpens', WHERE WHAT IT READS IS OF BULK AT MOST 1048576: true; the input reads as it did. -/
def coverOpensUptoRow : OpenClaim := { program := "ythnonmlhgafalaagreat", sum := "9d8220a9cc63c7b78c66767d53c8a0e452787080708eac7ed0597166e12baa5e", func := "medlar/medlarlaw19.CoverOpens", spec := "coverOpens", unfollowed := true, recurses := true, plainKeys := false, apart := false, narrowed := true }
def CoverOpensUptoSaid : Prop := coverOpensUptoRow.holds Tryz.pinned (OpenSpec.upto coverOpensSpec)

/-- 'medlarlaw19.CoverReads', WHERE WHAT IT READS IS OF BULK AT MOST 1048576: true; the input reads as it did. -/
def coverReadsUptoRow : OpenClaim := { program := "ythnonmlhgafalaagreat", sum := "9d8220a9cc63c7b78c66767d53c8a0e452787080708eac7ed0597166e12baa5e", func := "medlar/medlarlaw19.CoverReads", spec := "coverReads", unfollowed := true, recurses := true, plainKeys := false, apart := false, narrowed := true }
def CoverReadsUptoSaid : Prop := coverReadsUptoRow.holds Tryz.pinned (OpenSpec.upto coverReadsSpec)

/-- 'medlarlaw19.CoverSome', WHERE WHAT IT READS IS OF BULK AT MOST 1048576: true; the input reads as it did. -/
def coverSomeUptoRow : OpenClaim := { program := "ythnonmlhgafalaagreat", sum := "9d8220a9cc63c7b78c66767d53c8a0e452787080708eac7ed0597166e12baa5e", func := "medlar/medlarlaw19.CoverSome", spec := "coverSome", unfollowed := true, recurses := true, plainKeys := false, apart := false, narrowed := true }
def CoverSomeUptoSaid : Prop := coverSomeUptoRow.holds Tryz.pinned (OpenSpec.upto coverSomeSpec)

/-- 'medlarlaw20.CentreEpochs', WHERE WHAT IT READS IS OF BULK AT MOST 1048576: true; the input reads as it did. -/
def centreEpochsUptoRow : OpenClaim := { program := "ythnonmlhgafalaagreat", sum := "9d8220a9cc63c7b78c66767d53c8a0e452787080708eac7ed0597166e12baa5e", func := "medlar/medlarlaw20.CentreEpochs", spec := "centreEpochs", inPlace := ["slices.overlaps[uint64]"], unfollowed := true, recurses := true, plainKeys := false, apart := false, narrowed := true }
def CentreEpochsUptoSaid : Prop := centreEpochsUptoRow.holds Tryz.pinned (OpenSpec.upto centreEpochsSpec)

/-- 'medlarlaw20.CentreOnce', WHERE WHAT IT READS IS OF BULK AT MOST 1048576: true; the input reads as it did. -/
def centreOnceUptoRow : OpenClaim := { program := "ythnonmlhgafalaagreat", sum := "9d8220a9cc63c7b78c66767d53c8a0e452787080708eac7ed0597166e12baa5e", func := "medlar/medlarlaw20.CentreOnce", spec := "centreOnce", inPlace := ["slices.overlaps[uint64]"], unfollowed := true, recurses := true, plainKeys := false, apart := false, narrowed := true }
def CentreOnceUptoSaid : Prop := centreOnceUptoRow.holds Tryz.pinned (OpenSpec.upto centreOnceSpec)

/-- 'medlarlaw20.CentreReads', WHERE WHAT IT READS IS OF BULK AT MOST 1048576: true; the input reads as it did. -/
def centreReadsUptoRow : OpenClaim := { program := "ythnonmlhgafalaagreat", sum := "9d8220a9cc63c7b78c66767d53c8a0e452787080708eac7ed0597166e12baa5e", func := "medlar/medlarlaw20.CentreReads", spec := "centreReads", unfollowed := true, recurses := true, plainKeys := false, apart := false, narrowed := true }
def CentreReadsUptoSaid : Prop := centreReadsUptoRow.holds Tryz.pinned (OpenSpec.upto centreReadsSpec)

/-- 'medlarlaw20.CentreMakes', WHERE WHAT IT READS IS OF BULK AT MOST 1048576: true; the input reads as it did. -/
def centreMakesUptoRow : OpenClaim := { program := "ythnonmlhgafalaagreat", sum := "9d8220a9cc63c7b78c66767d53c8a0e452787080708eac7ed0597166e12baa5e", func := "medlar/medlarlaw20.CentreMakes", spec := "centreMakes", inPlace := ["slices.overlaps[uint64]"], unfollowed := true, recurses := true, plainKeys := false, apart := false, narrowed := true }
def CentreMakesUptoSaid : Prop := centreMakesUptoRow.holds Tryz.pinned (OpenSpec.upto centreMakesSpec)

/-- 'medlarlaw19.CoverSeals', WHERE WHAT IT READS IS OF BULK AT MOST 1048576: true; the input reads as it did. -/
def coverSealsUptoRow : OpenClaim := { program := "ythnonmlhgafalaagreat", sum := "9d8220a9cc63c7b78c66767d53c8a0e452787080708eac7ed0597166e12baa5e", func := "medlar/medlarlaw19.CoverSeals", spec := "coverSeals", unfollowed := true, recurses := true, plainKeys := false, apart := false, narrowed := true }
def CoverSealsUptoSaid : Prop := coverSealsUptoRow.holds Tryz.pinned (OpenSpec.upto coverSealsSpec)

end Rows
end Go.Proofs.YthnonmlhgafalaaGreat
