/- The law WalkRight: its run. -/
import Derived.Test.YtoeijiackpanoaaSeL6
set_option linter.unusedVariables false
set_option maxRecDepth 100000
set_option linter.unusedSimpArgs false
namespace Go.AM.Seat
open Go Go.AM Go.Proofs

def Γ306 : Orc := orc [(N308, s308), (N317, s317), (N318, s318), (N319, s319), (N312, s312), (N320, s320), (N49, s49)]
theorem Γ306ok : OrcOk Try.prog Γ306 := .cons g308 (.cons g317 (.cons g318 (.cons g319 (.cons g312 (.cons g320 (.cons g49 (.nil _)))))))
def last6 (x y : WS) : Bool := bif bif bif bif x.2.2 == 0 then y.2.2 == 0 else false then valEq y.1 x.1 else false then decide ((y.2.1.length : Int) ≥ (x.2.1.length : Int)) else false then checkL y.2.1 == 0 else false
def law6b (h k i : Int) (s : Subset.D) (m : Value.D) (x : WS) : Option AV :=
  bif !(mayI h k s).1 then oB (x.2.2 == 1) else bif (bif (hasI h s i).2 != 0 then true else !(hasI h s i).1) then oB (bif (hasI h s i).2 == 0 then x.2.2 == 4 else false) else
  bif small24 x.2.1.length then oB (last6 x (keyV x.2.1 h k m s)) else none
def law6a (l : List Term.D) (h k i : Int) (s : Subset.D) (m : Value.D) (mk : List Entry.D × List Term.D × Int) : Option AV :=
  bif (bif mk.2.2 != 0 then true else (mayI h k s).2 != 0) then oB true else bif decide (mk.2.1.length ≤ 1000000) then law6b h k i s m (keyR mk.2.1 h k i mk.1 s) else none
@[reducible] def R6 : List AK := [.v Block, .v .bool, .v I, .v I, .v U, .v Subset]
theorem r306 (b : Block.D) (sym : Bool) (h k i : Int) (s : Subset.D) : run Γ306 noL [] F306 (encA R6 (b, sym, h, k, i, s)) [] =
    bif decide (h > 8) then oB true else
    bif sym then bif decide (([(1, 0, 0)] : List Term.D).length ≤ 1000000) then law6a [(1, 0, 0)] h k i s (symV 0) (makeV [(1, 0, 0)] h k (symV 0) i) else none
    else bif decide (([] : List Term.D).length ≤ 1000000) then law6a [] h k i s (octV b) (makeV [] h k (octV b) i) else none := by kernel_rfl
end Go.AM.Seat
