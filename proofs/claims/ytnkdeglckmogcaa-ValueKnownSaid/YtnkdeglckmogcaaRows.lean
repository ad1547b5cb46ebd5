/-
  No cell of these rows narrows 'for every input' (looked for: loops, veiled, ifaces, maps, wideKeys, modest, calm, conditions, laid).
  DERIVED. THE GIVEN ROWS OF THIS SEAT. 13 by the template 'for every input the law returns true; each argument reads behind the call as it read before'; 0 by the template 'total and deterministic' (their statements: YtnkdeglckmogcaaTotals.lean).
  GIVEN WITH THE SEED: the statements are not yours to turn. If you find one false, say at which input.
  Laid BY PROGRAM, IN A SANDBOX (cutbox-rows.mjs): the forced cells as the released guide's own fill.sh prints them over the translation 66743ba40b8e45d4… (all of the seat's roots in one cut). By AI agents, Wed Nov 11 2026. No macro, syntax, notation, axiom, sorry.
-/
import Derived.Test.YtnkdeglckmogcaaChecked
import GoSem.Claim
import GoSem.ClaimJoined
import GoSem.ClaimMapViews
import Derived.JoinedTies
import Derived.KernelRfl
namespace Go.Proofs.Ytnkdeglckmogcaa
/- THE CELL 'sum', in the pinned program and in every row, IS THE sha256 OF THE DUMP (.gsa) THAT YtnkdeglckmogcaaProg.lean LOADS. Nothing in Lean hashes anything: it is a label: what it is worth is what the hold of that sum in a sandbox is worth. -/
noncomputable def Try.pinned : Pinned := { name := "ytnkdeglckmogcaa", sum := "66743ba40b8e45d489b88ac2ead72c3caa11cec11dea73db47f4e52ed39c4b39", checked := Try.checked }
namespace Rows
def none {H : Type} : Left H := { results := [], args := [] }

/-- 'medlarlaw07.ValueBack': WHATEVER THE INPUT: true; the input reads as it did. -/
def valueBackSpec : ChangeSpec := { name := "valueBack", fn := fun _ => fun
  | [d1, d2, d3, d4] => { results := [.lit (.bool true)], args := [d1, d2, d3, d4] }
  | _ => none }
def valueBackRow : OpenClaim := { program := "ytnkdeglckmogcaa", sum := "66743ba40b8e45d489b88ac2ead72c3caa11cec11dea73db47f4e52ed39c4b39", func := "medlar/medlarlaw07.ValueBack", spec := "valueBack", unfollowed := true, recurses := true, plainKeys := false, apart := false }
def ValueBackSaid : Prop := valueBackRow.holds Try.pinned (OpenSpec.ofChange valueBackSpec)

/-- ITS FALSE NEIGHBOUR: 'it returns false'. Refute it at one input. -/
def valueBackWrong : ChangeSpec := { name := "valueBack", fn := fun _ => fun
  | [d1, d2, d3, d4] => { results := [.lit (.bool false)], args := [d1, d2, d3, d4] }
  | _ => none }
def ValueBackWrongFalsely : Prop := valueBackRow.holds Try.pinned (OpenSpec.ofChange valueBackWrong)

/-- 'medlarlaw07.ValueDoes': WHATEVER THE INPUT: true; the input reads as it did. -/
def valueDoesSpec : ChangeSpec := { name := "valueDoes", fn := fun _ => fun
  | [d1, d2, d3, d4, d5, d6, d7] => { results := [.lit (.bool true)], args := [d1, d2, d3, d4, d5, d6, d7] }
  | _ => none }
def valueDoesRow : OpenClaim := { program := "ytnkdeglckmogcaa", sum := "66743ba40b8e45d489b88ac2ead72c3caa11cec11dea73db47f4e52ed39c4b39", func := "medlar/medlarlaw07.ValueDoes", spec := "valueDoes", unfollowed := true, recurses := true, plainKeys := false, apart := false }
def ValueDoesSaid : Prop := valueDoesRow.holds Try.pinned (OpenSpec.ofChange valueDoesSpec)

/-- ITS FALSE NEIGHBOUR: 'it returns false'. Refute it at one input. -/
def valueDoesWrong : ChangeSpec := { name := "valueDoes", fn := fun _ => fun
  | [d1, d2, d3, d4, d5, d6, d7] => { results := [.lit (.bool false)], args := [d1, d2, d3, d4, d5, d6, d7] }
  | _ => none }
def ValueDoesWrongFalsely : Prop := valueDoesRow.holds Try.pinned (OpenSpec.ofChange valueDoesWrong)

/-- 'medlarlaw07.ValueKinds': WHATEVER THE INPUT: true; the input reads as it did. -/
def valueKindsSpec : ChangeSpec := { name := "valueKinds", fn := fun _ => fun
  | [d1, d2, d3, d4] => { results := [.lit (.bool true)], args := [d1, d2, d3, d4] }
  | _ => none }
def valueKindsRow : OpenClaim := { program := "ytnkdeglckmogcaa", sum := "66743ba40b8e45d489b88ac2ead72c3caa11cec11dea73db47f4e52ed39c4b39", func := "medlar/medlarlaw07.ValueKinds", spec := "valueKinds", unfollowed := true, recurses := true, plainKeys := false, apart := false }
def ValueKindsSaid : Prop := valueKindsRow.holds Try.pinned (OpenSpec.ofChange valueKindsSpec)

/-- ITS FALSE NEIGHBOUR: 'it returns false'. Refute it at one input. -/
def valueKindsWrong : ChangeSpec := { name := "valueKinds", fn := fun _ => fun
  | [d1, d2, d3, d4] => { results := [.lit (.bool false)], args := [d1, d2, d3, d4] }
  | _ => none }
def ValueKindsWrongFalsely : Prop := valueKindsRow.holds Try.pinned (OpenSpec.ofChange valueKindsWrong)

/-- 'medlarlaw06.KnowMore': WHATEVER THE INPUT: true; the input reads as it did. -/
def knowMoreSpec : ChangeSpec := { name := "knowMore", fn := fun _ => fun
  | [d1, d2, d3] => { results := [.lit (.bool true)], args := [d1, d2, d3] }
  | _ => none }
def knowMoreRow : OpenClaim := { program := "ytnkdeglckmogcaa", sum := "66743ba40b8e45d489b88ac2ead72c3caa11cec11dea73db47f4e52ed39c4b39", func := "medlar/medlarlaw06.KnowMore", spec := "knowMore", unfollowed := true, recurses := true, plainKeys := false, apart := false }
def KnowMoreSaid : Prop := knowMoreRow.holds Try.pinned (OpenSpec.ofChange knowMoreSpec)

/-- ITS FALSE NEIGHBOUR: 'it returns false'. Refute it at one input. -/
def knowMoreWrong : ChangeSpec := { name := "knowMore", fn := fun _ => fun
  | [d1, d2, d3] => { results := [.lit (.bool false)], args := [d1, d2, d3] }
  | _ => none }
def KnowMoreWrongFalsely : Prop := knowMoreRow.holds Try.pinned (OpenSpec.ofChange knowMoreWrong)

/-- 'medlarlaw06.KnowJoin': WHATEVER THE INPUT: true; the input reads as it did. -/
def knowJoinSpec : ChangeSpec := { name := "knowJoin", fn := fun _ => fun
  | [d1, d2, d3, d4] => { results := [.lit (.bool true)], args := [d1, d2, d3, d4] }
  | _ => none }
def knowJoinRow : OpenClaim := { program := "ytnkdeglckmogcaa", sum := "66743ba40b8e45d489b88ac2ead72c3caa11cec11dea73db47f4e52ed39c4b39", func := "medlar/medlarlaw06.KnowJoin", spec := "knowJoin", unfollowed := true, recurses := true, plainKeys := false, apart := false }
def KnowJoinSaid : Prop := knowJoinRow.holds Try.pinned (OpenSpec.ofChange knowJoinSpec)

/-- ITS FALSE NEIGHBOUR: 'it returns false'. Refute it at one input. -/
def knowJoinWrong : ChangeSpec := { name := "knowJoin", fn := fun _ => fun
  | [d1, d2, d3, d4] => { results := [.lit (.bool false)], args := [d1, d2, d3, d4] }
  | _ => none }
def KnowJoinWrongFalsely : Prop := knowJoinRow.holds Try.pinned (OpenSpec.ofChange knowJoinWrong)

/-- 'medlarlaw06.KnowLeast': WHATEVER THE INPUT: true; the input reads as it did. -/
def knowLeastSpec : ChangeSpec := { name := "knowLeast", fn := fun _ => fun
  | [d1, d2, d3] => { results := [.lit (.bool true)], args := [d1, d2, d3] }
  | _ => none }
def knowLeastRow : OpenClaim := { program := "ytnkdeglckmogcaa", sum := "66743ba40b8e45d489b88ac2ead72c3caa11cec11dea73db47f4e52ed39c4b39", func := "medlar/medlarlaw06.KnowLeast", spec := "knowLeast", unfollowed := true, recurses := true, plainKeys := false, apart := false }
def KnowLeastSaid : Prop := knowLeastRow.holds Try.pinned (OpenSpec.ofChange knowLeastSpec)

/-- ITS FALSE NEIGHBOUR: 'it returns false'. Refute it at one input. -/
def knowLeastWrong : ChangeSpec := { name := "knowLeast", fn := fun _ => fun
  | [d1, d2, d3] => { results := [.lit (.bool false)], args := [d1, d2, d3] }
  | _ => none }
def KnowLeastWrongFalsely : Prop := knowLeastRow.holds Try.pinned (OpenSpec.ofChange knowLeastWrong)

/-- 'medlarlaw06.KnowSteps': WHATEVER THE INPUT: true; the input reads as it did. -/
def knowStepsSpec : ChangeSpec := { name := "knowSteps", fn := fun _ => fun
  | [d1, d2, d3, d4, d5] => { results := [.lit (.bool true)], args := [d1, d2, d3, d4, d5] }
  | _ => none }
def knowStepsRow : OpenClaim := { program := "ytnkdeglckmogcaa", sum := "66743ba40b8e45d489b88ac2ead72c3caa11cec11dea73db47f4e52ed39c4b39", func := "medlar/medlarlaw06.KnowSteps", spec := "knowSteps", unfollowed := true, recurses := true, plainKeys := false, apart := false }
def KnowStepsSaid : Prop := knowStepsRow.holds Try.pinned (OpenSpec.ofChange knowStepsSpec)

/-- ITS FALSE NEIGHBOUR: 'it returns false'. Refute it at one input. -/
def knowStepsWrong : ChangeSpec := { name := "knowSteps", fn := fun _ => fun
  | [d1, d2, d3, d4, d5] => { results := [.lit (.bool false)], args := [d1, d2, d3, d4, d5] }
  | _ => none }
def KnowStepsWrongFalsely : Prop := knowStepsRow.holds Try.pinned (OpenSpec.ofChange knowStepsWrong)

/-- 'medlarlaw06.KnowParts': WHATEVER THE INPUT: true; the input reads as it did. -/
def knowPartsSpec : ChangeSpec := { name := "knowParts", fn := fun _ => fun
  | [d1, d2] => { results := [.lit (.bool true)], args := [d1, d2] }
  | _ => none }
def knowPartsRow : OpenClaim := { program := "ytnkdeglckmogcaa", sum := "66743ba40b8e45d489b88ac2ead72c3caa11cec11dea73db47f4e52ed39c4b39", func := "medlar/medlarlaw06.KnowParts", spec := "knowParts", unfollowed := true, recurses := true, plainKeys := false, apart := false }
def KnowPartsSaid : Prop := knowPartsRow.holds Try.pinned (OpenSpec.ofChange knowPartsSpec)

/-- ITS FALSE NEIGHBOUR: 'it returns false'. Refute it at one input. -/
def knowPartsWrong : ChangeSpec := { name := "knowParts", fn := fun _ => fun
  | [d1, d2] => { results := [.lit (.bool false)], args := [d1, d2] }
  | _ => none }
def KnowPartsWrongFalsely : Prop := knowPartsRow.holds Try.pinned (OpenSpec.ofChange knowPartsWrong)

/-- 'medlarlaw06.KnowDoes': WHATEVER THE INPUT: true; the input reads as it did. -/
def knowDoesSpec : ChangeSpec := { name := "knowDoes", fn := fun _ => fun
  | [d1, d2, d3, d4] => { results := [.lit (.bool true)], args := [d1, d2, d3, d4] }
  | _ => none }
def knowDoesRow : OpenClaim := { program := "ytnkdeglckmogcaa", sum := "66743ba40b8e45d489b88ac2ead72c3caa11cec11dea73db47f4e52ed39c4b39", func := "medlar/medlarlaw06.KnowDoes", spec := "knowDoes", unfollowed := true, recurses := true, plainKeys := false, apart := false }
def KnowDoesSaid : Prop := knowDoesRow.holds Try.pinned (OpenSpec.ofChange knowDoesSpec)

/-- ITS FALSE NEIGHBOUR: 'it returns false'. Refute it at one input. -/
def knowDoesWrong : ChangeSpec := { name := "knowDoes", fn := fun _ => fun
  | [d1, d2, d3, d4] => { results := [.lit (.bool false)], args := [d1, d2, d3, d4] }
  | _ => none }
def KnowDoesWrongFalsely : Prop := knowDoesRow.holds Try.pinned (OpenSpec.ofChange knowDoesWrong)

/-- 'medlarlaw06.KnowWhy': WHATEVER THE INPUT: true; the input reads as it did. -/
def knowWhySpec : ChangeSpec := { name := "knowWhy", fn := fun _ => fun
  | [d1, d2, d3] => { results := [.lit (.bool true)], args := [d1, d2, d3] }
  | _ => none }
def knowWhyRow : OpenClaim := { program := "ytnkdeglckmogcaa", sum := "66743ba40b8e45d489b88ac2ead72c3caa11cec11dea73db47f4e52ed39c4b39", func := "medlar/medlarlaw06.KnowWhy", spec := "knowWhy", unfollowed := true, recurses := true, plainKeys := false, apart := false }
def KnowWhySaid : Prop := knowWhyRow.holds Try.pinned (OpenSpec.ofChange knowWhySpec)

/-- ITS FALSE NEIGHBOUR: 'it returns false'. Refute it at one input. -/
def knowWhyWrong : ChangeSpec := { name := "knowWhy", fn := fun _ => fun
  | [d1, d2, d3] => { results := [.lit (.bool false)], args := [d1, d2, d3] }
  | _ => none }
def KnowWhyWrongFalsely : Prop := knowWhyRow.holds Try.pinned (OpenSpec.ofChange knowWhyWrong)

/-- 'medlarlaw07.ValueEvals': WHATEVER THE INPUT: true; the input reads as it did. -/
def valueEvalsSpec : ChangeSpec := { name := "valueEvals", fn := fun _ => fun
  | [d1, d2, d3] => { results := [.lit (.bool true)], args := [d1, d2, d3] }
  | _ => none }
def valueEvalsRow : OpenClaim := { program := "ytnkdeglckmogcaa", sum := "66743ba40b8e45d489b88ac2ead72c3caa11cec11dea73db47f4e52ed39c4b39", func := "medlar/medlarlaw07.ValueEvals", spec := "valueEvals", unfollowed := true, recurses := true, plainKeys := false, apart := false }
def ValueEvalsSaid : Prop := valueEvalsRow.holds Try.pinned (OpenSpec.ofChange valueEvalsSpec)

/-- ITS FALSE NEIGHBOUR: 'it returns false'. Refute it at one input. -/
def valueEvalsWrong : ChangeSpec := { name := "valueEvals", fn := fun _ => fun
  | [d1, d2, d3] => { results := [.lit (.bool false)], args := [d1, d2, d3] }
  | _ => none }
def ValueEvalsWrongFalsely : Prop := valueEvalsRow.holds Try.pinned (OpenSpec.ofChange valueEvalsWrong)

/-- 'medlarlaw07.ValueStands': WHATEVER THE INPUT: true; the input reads as it did. -/
def valueStandsSpec : ChangeSpec := { name := "valueStands", fn := fun _ => fun
  | [d1, d2, d3, d4, d5] => { results := [.lit (.bool true)], args := [d1, d2, d3, d4, d5] }
  | _ => none }
def valueStandsRow : OpenClaim := { program := "ytnkdeglckmogcaa", sum := "66743ba40b8e45d489b88ac2ead72c3caa11cec11dea73db47f4e52ed39c4b39", func := "medlar/medlarlaw07.ValueStands", spec := "valueStands", unfollowed := true, recurses := true, plainKeys := false, apart := false }
def ValueStandsSaid : Prop := valueStandsRow.holds Try.pinned (OpenSpec.ofChange valueStandsSpec)

/-- ITS FALSE NEIGHBOUR: 'it returns false'. Refute it at one input. -/
def valueStandsWrong : ChangeSpec := { name := "valueStands", fn := fun _ => fun
  | [d1, d2, d3, d4, d5] => { results := [.lit (.bool false)], args := [d1, d2, d3, d4, d5] }
  | _ => none }
def ValueStandsWrongFalsely : Prop := valueStandsRow.holds Try.pinned (OpenSpec.ofChange valueStandsWrong)

/-- 'medlarlaw07.ValueKnown': WHATEVER THE INPUT: true; the input reads as it did. -/
def valueKnownSpec : ChangeSpec := { name := "valueKnown", fn := fun _ => fun
  | [d1, d2, d3, d4, d5] => { results := [.lit (.bool true)], args := [d1, d2, d3, d4, d5] }
  | _ => none }
def valueKnownRow : OpenClaim := { program := "ytnkdeglckmogcaa", sum := "66743ba40b8e45d489b88ac2ead72c3caa11cec11dea73db47f4e52ed39c4b39", func := "medlar/medlarlaw07.ValueKnown", spec := "valueKnown", unfollowed := true, recurses := true, plainKeys := false, apart := false }
def ValueKnownSaid : Prop := valueKnownRow.holds Try.pinned (OpenSpec.ofChange valueKnownSpec)

/-- ITS FALSE NEIGHBOUR: 'it returns false'. Refute it at one input. -/
def valueKnownWrong : ChangeSpec := { name := "valueKnown", fn := fun _ => fun
  | [d1, d2, d3, d4, d5] => { results := [.lit (.bool false)], args := [d1, d2, d3, d4, d5] }
  | _ => none }
def ValueKnownWrongFalsely : Prop := valueKnownRow.holds Try.pinned (OpenSpec.ofChange valueKnownWrong)

/- THE SECOND FORM. 'bulk': how many values and letters a reading holds, each counted each time it is reached (what is shared counts as often as it is met; a slice's spare places count too). A statement '..UptoSaid' is the law's where the arguments, and the package variables that the reading takes, are together of bulk at most 1048576: NARROWER than '..Said'. Prove '..Said' where nothing that the law and all that it calls make is longer than what came in: it says more and counts as full. Else prove '..UptoSaid'. A law counts once. -/
mutual
def uptoBulk {H : Type} : DataW H → Nat
  | .lit (.string bytes) => bytes.length + 1
  | .lit _ => 1
  | .nil => 1
  | .ptr d => uptoBulk d + 1
  | .slice elems spare => uptoBulkAll elems + uptoBulkAll spare + 1
  | .agg parts => uptoBulkAll parts + 1
  | .iface _ d => uptoBulk d + 1
  | .map entries => uptoBulkEntries entries + 1
  | .held _ => 1
def uptoBulkAll {H : Type} : List (DataW H) → Nat
  | [] => 0
  | d :: r => uptoBulk d + uptoBulkAll r
def uptoBulkEntries {H : Type} : List (Lit × DataW H) → Nat
  | [] => 0
  | x :: r => uptoBulkEntry x + uptoBulkEntries r
def uptoBulkEntry {H : Type} : Lit × DataW H → Nat
  | (.string bytes, d) => bytes.length + uptoBulk d + 1
  | (_, d) => uptoBulk d + 1
 end
def uptoSmall : (H : Type) → List (DataW H) → Bool := fun _ ds => decide (uptoBulkAll ds ≤ 1048576)
def OpenSpec.upto (s : _root_.Go.ChangeSpec) : _root_.Go.OpenSpec := { _root_.Go.OpenSpec.ofChange s with cond := some uptoSmall }

/-- 'medlarlaw07.ValueBack', WHERE WHAT IT READS IS OF BULK AT MOST 1048576: true; the input reads as it did. -/
def valueBackUptoRow : OpenClaim := { program := "ytnkdeglckmogcaa", sum := "66743ba40b8e45d489b88ac2ead72c3caa11cec11dea73db47f4e52ed39c4b39", func := "medlar/medlarlaw07.ValueBack", spec := "valueBack", unfollowed := true, recurses := true, plainKeys := false, apart := false, narrowed := true }
def ValueBackUptoSaid : Prop := valueBackUptoRow.holds Try.pinned (OpenSpec.upto valueBackSpec)

/-- 'medlarlaw07.ValueDoes', WHERE WHAT IT READS IS OF BULK AT MOST 1048576: true; the input reads as it did. -/
def valueDoesUptoRow : OpenClaim := { program := "ytnkdeglckmogcaa", sum := "66743ba40b8e45d489b88ac2ead72c3caa11cec11dea73db47f4e52ed39c4b39", func := "medlar/medlarlaw07.ValueDoes", spec := "valueDoes", unfollowed := true, recurses := true, plainKeys := false, apart := false, narrowed := true }
def ValueDoesUptoSaid : Prop := valueDoesUptoRow.holds Try.pinned (OpenSpec.upto valueDoesSpec)

/-- 'medlarlaw07.ValueKinds', WHERE WHAT IT READS IS OF BULK AT MOST 1048576: true; the input reads as it did. -/
def valueKindsUptoRow : OpenClaim := { program := "ytnkdeglckmogcaa", sum := "66743ba40b8e45d489b88ac2ead72c3caa11cec11dea73db47f4e52ed39c4b39", func := "medlar/medlarlaw07.ValueKinds", spec := "valueKinds", unfollowed := true, recurses := true, plainKeys := false, apart := false, narrowed := true }
def ValueKindsUptoSaid : Prop := valueKindsUptoRow.holds Try.pinned (OpenSpec.upto valueKindsSpec)

/-- 'medlarlaw06.KnowMore', WHERE WHAT IT READS IS OF BULK AT MOST 1048576: true; the input reads as it did. -/
def knowMoreUptoRow : OpenClaim := { program := "ytnkdeglckmogcaa", sum := "66743ba40b8e45d489b88ac2ead72c3caa11cec11dea73db47f4e52ed39c4b39", func := "medlar/medlarlaw06.KnowMore", spec := "knowMore", unfollowed := true, recurses := true, plainKeys := false, apart := false, narrowed := true }
def KnowMoreUptoSaid : Prop := knowMoreUptoRow.holds Try.pinned (OpenSpec.upto knowMoreSpec)

/-- 'medlarlaw06.KnowJoin', WHERE WHAT IT READS IS OF BULK AT MOST 1048576: true; the input reads as it did. -/
def knowJoinUptoRow : OpenClaim := { program := "ytnkdeglckmogcaa", sum := "66743ba40b8e45d489b88ac2ead72c3caa11cec11dea73db47f4e52ed39c4b39", func := "medlar/medlarlaw06.KnowJoin", spec := "knowJoin", unfollowed := true, recurses := true, plainKeys := false, apart := false, narrowed := true }
def KnowJoinUptoSaid : Prop := knowJoinUptoRow.holds Try.pinned (OpenSpec.upto knowJoinSpec)

/-- 'medlarlaw06.KnowLeast', WHERE WHAT IT READS IS OF BULK AT MOST 1048576: true; the input reads as it did. -/
def knowLeastUptoRow : OpenClaim := { program := "ytnkdeglckmogcaa", sum := "66743ba40b8e45d489b88ac2ead72c3caa11cec11dea73db47f4e52ed39c4b39", func := "medlar/medlarlaw06.KnowLeast", spec := "knowLeast", unfollowed := true, recurses := true, plainKeys := false, apart := false, narrowed := true }
def KnowLeastUptoSaid : Prop := knowLeastUptoRow.holds Try.pinned (OpenSpec.upto knowLeastSpec)

/-- 'medlarlaw06.KnowSteps', WHERE WHAT IT READS IS OF BULK AT MOST 1048576: true; the input reads as it did. -/
def knowStepsUptoRow : OpenClaim := { program := "ytnkdeglckmogcaa", sum := "66743ba40b8e45d489b88ac2ead72c3caa11cec11dea73db47f4e52ed39c4b39", func := "medlar/medlarlaw06.KnowSteps", spec := "knowSteps", unfollowed := true, recurses := true, plainKeys := false, apart := false, narrowed := true }
def KnowStepsUptoSaid : Prop := knowStepsUptoRow.holds Try.pinned (OpenSpec.upto knowStepsSpec)

/-- 'medlarlaw06.KnowParts', WHERE WHAT IT READS IS OF BULK AT MOST 1048576: true; the input reads as it did. -/
def knowPartsUptoRow : OpenClaim := { program := "ytnkdeglckmogcaa", sum := "66743ba40b8e45d489b88ac2ead72c3caa11cec11dea73db47f4e52ed39c4b39", func := "medlar/medlarlaw06.KnowParts", spec := "knowParts", unfollowed := true, recurses := true, plainKeys := false, apart := false, narrowed := true }
def KnowPartsUptoSaid : Prop := knowPartsUptoRow.holds Try.pinned (OpenSpec.upto knowPartsSpec)

/-- 'medlarlaw06.KnowDoes', WHERE WHAT IT READS IS OF BULK AT MOST 1048576: true; the input reads as it did. -/
def knowDoesUptoRow : OpenClaim := { program := "ytnkdeglckmogcaa", sum := "66743ba40b8e45d489b88ac2ead72c3caa11cec11dea73db47f4e52ed39c4b39", func := "medlar/medlarlaw06.KnowDoes", spec := "knowDoes", unfollowed := true, recurses := true, plainKeys := false, apart := false, narrowed := true }
def KnowDoesUptoSaid : Prop := knowDoesUptoRow.holds Try.pinned (OpenSpec.upto knowDoesSpec)

/-- 'medlarlaw06.KnowWhy', WHERE WHAT IT READS IS OF BULK AT MOST 1048576: true; the input reads as it did. -/
def knowWhyUptoRow : OpenClaim := { program := "ytnkdeglckmogcaa", sum := "66743ba40b8e45d489b88ac2ead72c3caa11cec11dea73db47f4e52ed39c4b39", func := "medlar/medlarlaw06.KnowWhy", spec := "knowWhy", unfollowed := true, recurses := true, plainKeys := false, apart := false, narrowed := true }
def KnowWhyUptoSaid : Prop := knowWhyUptoRow.holds Try.pinned (OpenSpec.upto knowWhySpec)

/-- 'medlarlaw07.ValueEvals', WHERE WHAT IT READS IS OF BULK AT MOST 1048576: true; the input reads as it did. -/
def valueEvalsUptoRow : OpenClaim := { program := "ytnkdeglckmogcaa", sum := "66743ba40b8e45d489b88ac2ead72c3caa11cec11dea73db47f4e52ed39c4b39", func := "medlar/medlarlaw07.ValueEvals", spec := "valueEvals", unfollowed := true, recurses := true, plainKeys := false, apart := false, narrowed := true }
def ValueEvalsUptoSaid : Prop := valueEvalsUptoRow.holds Try.pinned (OpenSpec.upto valueEvalsSpec)

/-- 'medlarlaw07.ValueStands', WHERE WHAT IT READS IS OF BULK AT MOST 1048576: true; the input reads as it did. -/
def valueStandsUptoRow : OpenClaim := { program := "ytnkdeglckmogcaa", sum := "66743ba40b8e45d489b88ac2ead72c3caa11cec11dea73db47f4e52ed39c4b39", func := "medlar/medlarlaw07.ValueStands", spec := "valueStands", unfollowed := true, recurses := true, plainKeys := false, apart := false, narrowed := true }
def ValueStandsUptoSaid : Prop := valueStandsUptoRow.holds Try.pinned (OpenSpec.upto valueStandsSpec)

/-- 'medlarlaw07.ValueKnown', WHERE WHAT IT READS IS OF BULK AT MOST 1048576: true; the input reads as it did. -/
def valueKnownUptoRow : OpenClaim := { program := "ytnkdeglckmogcaa", sum := "66743ba40b8e45d489b88ac2ead72c3caa11cec11dea73db47f4e52ed39c4b39", func := "medlar/medlarlaw07.ValueKnown", spec := "valueKnown", unfollowed := true, recurses := true, plainKeys := false, apart := false, narrowed := true }
def ValueKnownUptoSaid : Prop := valueKnownUptoRow.holds Try.pinned (OpenSpec.upto valueKnownSpec)

end Rows
end Go.Proofs.Ytnkdeglckmogcaa
