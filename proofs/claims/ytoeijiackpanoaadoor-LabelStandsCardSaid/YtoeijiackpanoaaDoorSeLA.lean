/- The law LabelApart: its run. -/
import Derived.Test.YtoeijiackpanoaaDoorPlWalks
set_option linter.unusedVariables false
set_option linter.unusedSimpArgs false
set_option maxRecDepth 100000
namespace Go.AM.Seat
open Go Go.AM Go.Proofs

def Γ603 : Orc := orc [(N608, sLive), (N609, s609), (N347, s347), (N320, s320), (N49, s49)]
theorem Γ603ok : OrcOk Tryd.prog Γ603 := .cons g608 (.cons g609 (.cons g347 (.cons g320 (.cons g49 (.nil _)))))
def subEq (a b : Subset.D) : Bool := (a.1 == b.1) && (a.2 == b.2)
/-- What the law goes on with, if nothing went wrong. -/
def nxt (x : WS) (r : Option AV) : Option AV := bif x.2.2 != 0 then oB true else r
def apC (h k : Int) (a b : Subset.D) (q s t : WS) : Option AV := nxt t (bif valEq s.1 t.1 == subEq a b then oB (checkL t.2.1 == 0) else oB false)
def apB (h k : Int) (m : Value.D) (a b : Subset.D) (y p q : WS) : Option AV := nxt q (bif !(valEq p.1 q.1 == subEq a b) then oB false else
  bif small24 q.2.1.length then nxt (keyV q.2.1 h k m a) (bif small24 (keyV q.2.1 h k m a).2.1.length then apC h k a b q (keyV q.2.1 h k m a) (keyV (keyV q.2.1 h k m a).2.1 h k m b) else none) else none)
def apA (h k : Int) (m : Value.D) (a b : Subset.D) (x y : WS) : Option AV := nxt y (bif !(valEq x.1 y.1 == (a.1 == b.1)) then oB false else
  bif small24 y.2.1.length then nxt (labelV y.2.1 h m a) (bif small24 (labelV y.2.1 h m a).2.1.length then apB h k m a b y (labelV y.2.1 h m a) (labelV (labelV y.2.1 h m a).2.1 h m b) else none) else none)
@[reducible] def K5a : List AK := [.v I, .v I, .v I, .v Subset, .v Subset]
theorem r603 (h k n : Int) (a b : Subset.D) : run Γ603 noL [] F603 (encA K5a (h, k, n, a, b)) [] =
    bif bif decide (n < 0) then true else decide (n > 1048576) then oB true else
    nxt (nodeV [(1, n, 0)] h (symV 0) a.1) (bif small24 (nodeV [(1, n, 0)] h (symV 0) a.1).2.1.length then
      apA h k (symV 0) a b (nodeV [(1, n, 0)] h (symV 0) a.1) (nodeV (nodeV [(1, n, 0)] h (symV 0) a.1).2.1 h (symV 0) b.1) else none) := by kernel_rfl
end Go.AM.Seat
