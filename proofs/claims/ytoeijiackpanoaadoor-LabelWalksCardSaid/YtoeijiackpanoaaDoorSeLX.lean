/- The law LabelWalks: that it answers true. -/
import Derived.Test.YtoeijiackpanoaaDoorPlWalks
set_option linter.unusedVariables false
set_option linter.unusedSimpArgs false
set_option maxRecDepth 100000
namespace Go.AM.Seat
open Go Go.AM Go.Proofs

def rest6 (l : List Term.D) (h : Int) (m : Value.D) (n : Int) (nd : WS) : Option AV :=
  bif small24 l.length then bif nd.2.2 != 0 then oB (valEq nd.1 zeroV) else bif sideB l h n m nd.2.1 nd.1 0 && sideB l h n m nd.2.1 nd.1 1 then oB true else none else none
def dif3 (one two all : WS) : Bool := bif bif bif one.2.2 != 0 then true else two.2.2 != 0 then true else !valEq two.1 all.1 then true else !sameL two.2.1 all.2.1
def fin6 (l : List Term.D) (h : Int) (m : Value.D) (n : Int) (b : List Int) (all one : WS) : Option AV :=
  bif small24 l.length then bif small24 l.length then
    bif all.2.2 == 0 then bif small24 one.2.1.length then bif dif3 one (walkV one.2.1 one.1 b) all then oB false else rest6 l h m n (nodeV l h m n) else none
    else rest6 l h m n (nodeV l h m n)
  else none else none
/-- The orders in which two appends, a look, and a row of its own may come. -/
noncomputable def ord6 (g1 g2 : Bool) (f : Option AV) : Option AV :=
  let x120 := allSame [f, f]
  let x020 := allSame [x120, f]
  let x111 := bif g2 then f else none
  let x110 := allSame [bif g2 then x120 else none, x111]
  let x011 := allSame [x111, bif g2 then f else none]
  let x010 := allSame [x110, bif g2 then x020 else none, x011]
  let x101 := bif g1 then x111 else none
  let x100 := allSame [bif g1 then x110 else none, x101]
  let x001 := allSame [x101, bif g1 then x011 else none]
  allSame [x100, bif g1 then x010 else none, x001]
theorem ord6_some {x : AV} : ord6 true true (some x) = some x := by
  have h2 : allSame [some x, some x] = some x := allSame_rep x 1
  have h3 : allSame [some x, some x, some x] = some x := allSame_rep x 2
  simp only [ord6, cond_true, h2, h3]
theorem r606 (l : List Term.D) (h : Int) (m : Value.D) (n : Int) (a b : List Int) : run Γ606 Λ606 [(0, live606)] F606 (encA A6 (l, h, m, n, a, b)) [] =
    bif bif bif decide ((l.length : Int) > 60) then true else decide ((a.length : Int) > 30) then true else decide ((b.length : Int) > 30) then oB true else
    ord6 (decide (a.length * 8 ≤ 140737488355328)) (decide ((a.length + b.length) * 8 ≤ 140737488355328)) (fin6 l h m n b (walkV l m (a ++ b)) (walkV l m a)) := by kernel_rfl
end Go.AM.Seat
