/-
  No cell of these rows narrows 'for every input' (looked for: loops, veiled, ifaces, maps, wideKeys, modest, calm, conditions, laid).
  DERIVED. THE GIVEN ROWS OF THIS SEAT. 5 by the template 'for every input the law returns true; each argument reads behind the call as it read before'; 0 by the template 'total and deterministic' (their statements: YtoeijiackpanoaaTotals.lean).
  GIVEN WITH THE SEED: the statements are not yours to turn. If you find one false, say at which input.
  Laid BY PROGRAM, IN A SANDBOX (cutbox-rows.mjs): the forced cells as the released guide's own fill.sh prints them over the translation 63e003b29a67b3d6… (all of the seat's roots in one cut). By AI agents, Wed Nov 11 2026. No macro, syntax, notation, axiom, sorry.
-/
import Derived.Test.YtoeijiackpanoaaChecked
import GoSem.Claim
import GoSem.ClaimJoined
import GoSem.ClaimMapViews
import Derived.JoinedTies
import Derived.KernelRfl
namespace Go.Proofs.Ytoeijiackpanoaa
/- THE CELL 'sum', in the pinned program and in every row, IS THE sha256 OF THE DUMP (.gsa) THAT YtoeijiackpanoaaProg.lean LOADS. Nothing in Lean hashes anything: it is a label: what it is worth is what the hold of that sum in a sandbox is worth. -/
noncomputable def Try.pinned : Pinned := { name := "ytoeijiackpanoaa", sum := "63e003b29a67b3d60ad6673ed4934fc04124af7c98d058a344f060f96737e5cd", checked := Try.checked }
namespace Rows
def none {H : Type} : Left H := { results := [], args := [] }

/-- 'medlarlaw15.WalkSides': WHATEVER THE INPUT: true; the input reads as it did. -/
def walkSidesSpec : ChangeSpec := { name := "walkSides", fn := fun _ => fun
  | [d1, d2, d3, d4] => { results := [.lit (.bool true)], args := [d1, d2, d3, d4] }
  | _ => none }
def walkSidesRow : OpenClaim := { program := "ytoeijiackpanoaa", sum := "63e003b29a67b3d60ad6673ed4934fc04124af7c98d058a344f060f96737e5cd", func := "medlar/medlarlaw15.WalkSides", spec := "walkSides", unfollowed := true, recurses := true, plainKeys := false, apart := false }
def WalkSidesSaid : Prop := walkSidesRow.holds Try.pinned (OpenSpec.ofChange walkSidesSpec)

/-- ITS FALSE NEIGHBOUR: 'it returns false'. Refute it at one input. -/
def walkSidesWrong : ChangeSpec := { name := "walkSides", fn := fun _ => fun
  | [d1, d2, d3, d4] => { results := [.lit (.bool false)], args := [d1, d2, d3, d4] }
  | _ => none }
def WalkSidesWrongFalsely : Prop := walkSidesRow.holds Try.pinned (OpenSpec.ofChange walkSidesWrong)

/-- 'medlarlaw15.WalkDoes': WHATEVER THE INPUT: true; the input reads as it did. -/
def walkDoesSpec : ChangeSpec := { name := "walkDoes", fn := fun _ => fun
  | [d1, d2, d3, d4, d5] => { results := [.lit (.bool true)], args := [d1, d2, d3, d4, d5] }
  | _ => none }
def walkDoesRow : OpenClaim := { program := "ytoeijiackpanoaa", sum := "63e003b29a67b3d60ad6673ed4934fc04124af7c98d058a344f060f96737e5cd", func := "medlar/medlarlaw15.WalkDoes", spec := "walkDoes", unfollowed := true, recurses := true, plainKeys := false, apart := false }
def WalkDoesSaid : Prop := walkDoesRow.holds Try.pinned (OpenSpec.ofChange walkDoesSpec)

/-- ITS FALSE NEIGHBOUR: 'it returns false'. Refute it at one input. -/
def walkDoesWrong : ChangeSpec := { name := "walkDoes", fn := fun _ => fun
  | [d1, d2, d3, d4, d5] => { results := [.lit (.bool false)], args := [d1, d2, d3, d4, d5] }
  | _ => none }
def WalkDoesWrongFalsely : Prop := walkDoesRow.holds Try.pinned (OpenSpec.ofChange walkDoesWrong)

/-- 'medlarlaw15.WalkFirst': WHATEVER THE INPUT: true; the input reads as it did. -/
def walkFirstSpec : ChangeSpec := { name := "walkFirst", fn := fun _ => fun
  | [d1, d2, d3, d4] => { results := [.lit (.bool true)], args := [d1, d2, d3, d4] }
  | _ => none }
def walkFirstRow : OpenClaim := { program := "ytoeijiackpanoaa", sum := "63e003b29a67b3d60ad6673ed4934fc04124af7c98d058a344f060f96737e5cd", func := "medlar/medlarlaw15.WalkFirst", spec := "walkFirst", unfollowed := true, recurses := true, plainKeys := false, apart := false }
def WalkFirstSaid : Prop := walkFirstRow.holds Try.pinned (OpenSpec.ofChange walkFirstSpec)

/-- ITS FALSE NEIGHBOUR: 'it returns false'. Refute it at one input. -/
def walkFirstWrong : ChangeSpec := { name := "walkFirst", fn := fun _ => fun
  | [d1, d2, d3, d4] => { results := [.lit (.bool false)], args := [d1, d2, d3, d4] }
  | _ => none }
def WalkFirstWrongFalsely : Prop := walkFirstRow.holds Try.pinned (OpenSpec.ofChange walkFirstWrong)

/-- 'medlarlaw15.WalkRight': WHATEVER THE INPUT: true; the input reads as it did. -/
def walkRightSpec : ChangeSpec := { name := "walkRight", fn := fun _ => fun
  | [d1, d2, d3, d4, d5, d6] => { results := [.lit (.bool true)], args := [d1, d2, d3, d4, d5, d6] }
  | _ => none }
def walkRightRow : OpenClaim := { program := "ytoeijiackpanoaa", sum := "63e003b29a67b3d60ad6673ed4934fc04124af7c98d058a344f060f96737e5cd", func := "medlar/medlarlaw15.WalkRight", spec := "walkRight", unfollowed := true, recurses := true, plainKeys := false, apart := false }
def WalkRightSaid : Prop := walkRightRow.holds Try.pinned (OpenSpec.ofChange walkRightSpec)

/-- ITS FALSE NEIGHBOUR: 'it returns false'. Refute it at one input. -/
def walkRightWrong : ChangeSpec := { name := "walkRight", fn := fun _ => fun
  | [d1, d2, d3, d4, d5, d6] => { results := [.lit (.bool false)], args := [d1, d2, d3, d4, d5, d6] }
  | _ => none }
def WalkRightWrongFalsely : Prop := walkRightRow.holds Try.pinned (OpenSpec.ofChange walkRightWrong)

/-- 'medlarlaw15.WalkCover': WHATEVER THE INPUT: true; the input reads as it did. -/
def walkCoverSpec : ChangeSpec := { name := "walkCover", fn := fun _ => fun
  | [d1, d2, d3, d4] => { results := [.lit (.bool true)], args := [d1, d2, d3, d4] }
  | _ => none }
def walkCoverRow : OpenClaim := { program := "ytoeijiackpanoaa", sum := "63e003b29a67b3d60ad6673ed4934fc04124af7c98d058a344f060f96737e5cd", func := "medlar/medlarlaw15.WalkCover", spec := "walkCover", unfollowed := true, recurses := true, plainKeys := false, apart := false }
def WalkCoverSaid : Prop := walkCoverRow.holds Try.pinned (OpenSpec.ofChange walkCoverSpec)

/-- ITS FALSE NEIGHBOUR: 'it returns false'. Refute it at one input. -/
def walkCoverWrong : ChangeSpec := { name := "walkCover", fn := fun _ => fun
  | [d1, d2, d3, d4] => { results := [.lit (.bool false)], args := [d1, d2, d3, d4] }
  | _ => none }
def WalkCoverWrongFalsely : Prop := walkCoverRow.holds Try.pinned (OpenSpec.ofChange walkCoverWrong)

/- THE SECOND FORM. 'bulk': how many values and letters a reading holds, each counted each time it is reached (what is shared counts as often as it is met; a slice's spare places count too). A statement '..UptoSaid' is the law's where the arguments, and the package variables that the reading takes, are together of bulk at most 1048576: NARROWER than '..Said'. Prove '..Said' where nothing that the law and all that it calls make is longer than what came in: it says more and counts as full. Else prove '..UptoSaid'. A law counts once. -/
mutual
def uptoBulk {H : Type} : DataW H → Nat
  | .lit (.string bytes) => bytes.length + 1
  | .lit _ => 1
  | .nil => 1
  | .ptr d => uptoBulk d + 1
  | .slice elems spare => uptoBulkAll elems + uptoBulkAll spare + 1
  | .agg parts => uptoBulkAll parts + 1
  | .iface _ d => uptoBulk d + 1
  | .map entries => uptoBulkEntries entries + 1
  | .held _ => 1
def uptoBulkAll {H : Type} : List (DataW H) → Nat
  | [] => 0
  | d :: r => uptoBulk d + uptoBulkAll r
def uptoBulkEntries {H : Type} : List (Lit × DataW H) → Nat
  | [] => 0
  | x :: r => uptoBulkEntry x + uptoBulkEntries r
def uptoBulkEntry {H : Type} : Lit × DataW H → Nat
  | (.string bytes, d) => bytes.length + uptoBulk d + 1
  | (_, d) => uptoBulk d + 1
 end
def uptoSmall : (H : Type) → List (DataW H) → Bool := fun _ ds => decide (uptoBulkAll ds ≤ 1048576)
def OpenSpec.upto (s : _root_.Go.ChangeSpec) : _root_.Go.OpenSpec := { _root_.Go.OpenSpec.ofChange s with cond := some uptoSmall }

/-- 'medlarlaw15.WalkSides', WHERE WHAT IT READS IS OF BULK AT MOST 1048576: true; the input reads as it did. -/
def walkSidesUptoRow : OpenClaim := { program := "ytoeijiackpanoaa", sum := "63e003b29a67b3d60ad6673ed4934fc04124af7c98d058a344f060f96737e5cd", func := "medlar/medlarlaw15.WalkSides", spec := "walkSides", unfollowed := true, recurses := true, plainKeys := false, apart := false, narrowed := true }
def WalkSidesUptoSaid : Prop := walkSidesUptoRow.holds Try.pinned (OpenSpec.upto walkSidesSpec)

/-- 'medlarlaw15.WalkDoes', WHERE WHAT IT READS IS OF BULK AT MOST 1048576: true; the input reads as it did. -/
def walkDoesUptoRow : OpenClaim := { program := "ytoeijiackpanoaa", sum := "63e003b29a67b3d60ad6673ed4934fc04124af7c98d058a344f060f96737e5cd", func := "medlar/medlarlaw15.WalkDoes", spec := "walkDoes", unfollowed := true, recurses := true, plainKeys := false, apart := false, narrowed := true }
def WalkDoesUptoSaid : Prop := walkDoesUptoRow.holds Try.pinned (OpenSpec.upto walkDoesSpec)

/-- 'medlarlaw15.WalkFirst', WHERE WHAT IT READS IS OF BULK AT MOST 1048576: true; the input reads as it did. -/
def walkFirstUptoRow : OpenClaim := { program := "ytoeijiackpanoaa", sum := "63e003b29a67b3d60ad6673ed4934fc04124af7c98d058a344f060f96737e5cd", func := "medlar/medlarlaw15.WalkFirst", spec := "walkFirst", unfollowed := true, recurses := true, plainKeys := false, apart := false, narrowed := true }
def WalkFirstUptoSaid : Prop := walkFirstUptoRow.holds Try.pinned (OpenSpec.upto walkFirstSpec)

/-- 'medlarlaw15.WalkRight', WHERE WHAT IT READS IS OF BULK AT MOST 1048576: true; the input reads as it did. -/
def walkRightUptoRow : OpenClaim := { program := "ytoeijiackpanoaa", sum := "63e003b29a67b3d60ad6673ed4934fc04124af7c98d058a344f060f96737e5cd", func := "medlar/medlarlaw15.WalkRight", spec := "walkRight", unfollowed := true, recurses := true, plainKeys := false, apart := false, narrowed := true }
def WalkRightUptoSaid : Prop := walkRightUptoRow.holds Try.pinned (OpenSpec.upto walkRightSpec)

/-- 'medlarlaw15.WalkCover', WHERE WHAT IT READS IS OF BULK AT MOST 1048576: true; the input reads as it did. -/
def walkCoverUptoRow : OpenClaim := { program := "ytoeijiackpanoaa", sum := "63e003b29a67b3d60ad6673ed4934fc04124af7c98d058a344f060f96737e5cd", func := "medlar/medlarlaw15.WalkCover", spec := "walkCover", unfollowed := true, recurses := true, plainKeys := false, apart := false, narrowed := true }
def WalkCoverUptoSaid : Prop := walkCoverUptoRow.holds Try.pinned (OpenSpec.upto walkCoverSpec)

end Rows
end Go.Proofs.Ytoeijiackpanoaa
