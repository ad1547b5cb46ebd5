/- The seat: contracts: the laws of values. -/
import Derived.Test.YtnkdeglckmogcaaSe6S
set_option linter.unusedVariables false
set_option maxRecDepth 100000
namespace Go.AM.Seat
open Go Go.AM Go.Proofs

/-! ### live -/
def Γ16 : Orc := orc [(N17, s17), (N18, s18), (N20, s20)]
theorem r16 : run Γ16 noL [] F16 [] [] = some (.one (.bool true)) := by kernel_rfl
def s16 : Sp := .fn [] fun _ => (true, .one (.bool true))
theorem g16 : GoodS Try.prog N16 s16 := by
  refine good (.cons g17 (.cons g18 (.cons g20 (.nil _)))) H16 rfl (by kernel_rfl) noL [] (noLoops (by kernel_rfl)) [] (by decide) [] _ fun x r hw h => ?_
  cases h
  exact r16
def Γ3 : Orc := orc [(N16, s16), (N17, s17), (N18, s18), (N19, s19)]
@[reducible] def V4 : List AK := [.v (.sl Term), .v Value, .v Value, .v Value]
def B (b : Bool) : Option AV := some (.one (.bool b))
def backOut (l : List Term.D) (k v : Value.D) : Bool :=
  bif bif (unwrapV (wrapV l k v).2.1 k (wrapV l k v).1).2 != 0 then true else !valEq (unwrapV (wrapV l k v).2.1 k (wrapV l k v).1).1 v then true else checkV (wrapV l k v).2.1 (wrapV l k v).1 != 0
def backEnd (l : List Term.D) (k v o : Value.D) : Bool := bif bif !k.1 then true else !o.1 then true else (((unwrapV (wrapV l k v).2.1 o (wrapV l k v).1).2 == 0) == valEq o k)
theorem r3 (l : List Term.D) (k v o : Value.D) : run Γ3 noL [] F3 (encA V4 (l, k, v, o)) [] =
    bif decide ((l.length : Int) > 60) then B true else
    bif (wrapV l k v).2.2 != 0 then B (bif valEq (wrapV l k v).1 zeroV then (((wrapV l k v).2.1.length : Int) == 0) else false) else
    bif backOut l k v then B false else B (backEnd l k v o) := by kernel_rfl
end Go.AM.Seat
