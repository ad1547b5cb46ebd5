/- The seat: contracts: the laws of kinds. -/
import Derived.Test.YtnkdeglckmogcaaSe7
import Derived.Test.YtnkdeglckmogcaaSe6
set_option linter.unusedVariables false
set_option maxRecDepth 100000
namespace Go.AM.Seat
open Go Go.AM Go.Proofs

def Γ5 : Orc := orc [(N16, s16), (N17, s17), (N18, s18), (N19, s19), (N22, s22)]
@[reducible] def K4 : List AK := [.v (.sl Term), .v Value, .v Value, .v I]
def kinds1 (a b : Value.D) (e f : Int) : Bool := bif !(a.1 == b.1) then bif e != 1 then true else f != 1 else false
def kinds2 (e g c h : Int) : Bool := bif bif g == 0 then c != 0 else false then true else bif e == 0 then h != 0 else false
def kinds3 (e f h : Int) : Bool := bif bif e != 0 then true else f == 1 then bif bif f != 0 then f != 7 else false then true else h == 1 else false
theorem r5 (l : List Term.D) (a b : Value.D) (i : Int) : run Γ5 noL [] F5 (encA K4 (l, a, b, i)) [] =
    bif decide ((l.length : Int) > 60) then B true else
    bif kinds1 a b (wrapV l a b).2.2 (unwrapV l a b).2 then B false else
    bif kinds2 (wrapV l a b).2.2 (partV l a i).2.2 (checkV l a) (partV l b 2).2.2 then B false else
    B (kinds3 (wrapV l a b).2.2 (unwrapV l a b).2 (partV l b 2).2.2) := by kernel_rfl
end Go.AM.Seat
