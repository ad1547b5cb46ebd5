/- The seat: the law ValueStands: its run. -/
import Derived.Test.YtnkdeglckmogcaaSeEv
import Derived.Test.YtnkdeglckmogcaaSe8
set_option linter.unusedVariables false
set_option linter.unusedSimpArgs false
set_option maxRecDepth 100000
namespace Go.AM.Seat
open Go Go.AM Go.Proofs

def Γ14v : Orc := orc [(N16, s16), (N42, s42), (N22, s22), (N17, s17), (N18, s18)]
def evX (l : List Term.D) (i : Int) (g : List Block.D) : Value.D := (evalI l i g).1
def bad1V (l : List Term.D) (i p : Int) (g : List Block.D) : Bool :=
  bif bif (evalI (partV l (symV i) p).2.1 (partV l (symV i) p).1.2.2.2.2 g).2 != 0 then true else (partV [] (evX l i g) p).2.2 != 0 then true else
  !valEq (partV [] (evX l i g) p).1 (evalI (partV l (symV i) p).2.1 (partV l (symV i) p).1.2.2.2.2 g).1
def wrV (l : List Term.D) (i k : Int) : Value.D × List Term.D × Int := wrapV l (symV i) (symV k)
def isW (l : List Term.D) (i k : Int) (g : List Block.D) : Value.D × List Term.D × Int := wrapV [] (evX l i g) (evX l k g)
def bad2V (l : List Term.D) (i k : Int) (g : List Block.D) : Bool :=
  bif bif bif bif bif bif (evalI (wrV l i k).2.1 (wrV l i k).1.2.2.2.2 g).2 != 0 then true else (isW l i k g).2.2 != 0 then true else (unwrapV (wrV l i k).2.1 (symV i) (wrV l i k).1).2 != 0 then true else (unwrapV [] (evX l i g) (isW l i k g).1).2 != 0 then true else
    !valEq (isW l i k g).1 (evalI (wrV l i k).2.1 (wrV l i k).1.2.2.2.2 g).1 then true else
    !valEq (unwrapV (wrV l i k).2.1 (symV i) (wrV l i k).1).1 (symV k) then true else
    !valEq (unwrapV [] (evX l i g) (isW l i k g).1).1 (evX l k g)
def bad3V (l : List Term.D) (i k : Int) (g : List Block.D) : Bool :=
  bif bif (evalI l (unwrapV l (symV i) (symV k)).1.2.2.2.2 g).2 != 0 then true else (unwrapV [] (evX l i g) (evX l k g)).2 != 0 then true else
  !valEq (unwrapV [] (evX l i g) (evX l k g)).1 (evalI l (unwrapV l (symV i) (symV k)).1.2.2.2.2 g).1
def end3V (l : List Term.D) (i k : Int) (g : List Block.D) : Option AV := bif (unwrapV l (symV i) (symV k)).2 == 0 then bif bad3V l i k g then B false else B true else B true
def end2V (l : List Term.D) (i k : Int) (g : List Block.D) : Option AV := bif (wrV l i k).2.2 == 0 then bif bad2V l i k g then B false else end3V l i k g else end3V l i k g
theorem r14v (l : List Term.D) (i k p : Int) (g : List Block.D) : run Γ14v noL [] F14 (encA [.v (.sl Term), .v I, .v I, .v I, .v (.sl Block)] (l, i, k, p, g)) [] =
    bif bif decide ((l.length : Int) > 60) then true else decide ((g.length : Int) > 300) then B true else
    bif bif (evalI l i g).2 != 0 then true else (evalI l k g).2 != 0 then B true else
    bif (partV l (symV i) p).2.2 == 0 then bif bad1V l i p g then B false else end2V l i k g else end2V l i k g := by kernel_rfl
end Go.AM.Seat
