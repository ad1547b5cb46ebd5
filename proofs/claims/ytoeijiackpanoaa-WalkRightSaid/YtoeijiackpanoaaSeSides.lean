/- The law WalkSides: its run. -/
import Derived.Test.YtoeijiackpanoaaSeN9
set_option linter.unusedVariables false
set_option maxRecDepth 100000
namespace Go.AM.Seat
open Go Go.AM Go.Proofs

def Γ303 : Orc := orc [(N308, s308), (N309, s309), (N310, s310), (N311, s311), (N312, s312), (N31, s31)]
def oB (b : Bool) : Option AV := some (.one (.bool b))
def sides3 (h i : Int) (s p : Subset.D) (e : Int × List Int × Int) : Bool :=
  bif bif bif (pathI h p.2 s.2).2 == 0 then (hasI h p i).2 == 0 else false then (hasI h p i).1 else false then sameI e.2.1 (pathI h p.2 s.2).1 else false
def sides2 (h k i : Int) (s : Subset.D) (e : Int × List Int × Int) (l : List Subset.D) (p : Subset.D) : Option AV :=
  bif inB e.1 l.length then bif p.1 != s.1 then oB false else
    bif s.2 == 0 then bif inB e.1 l.length then bif p.1 == s.1 && p.2 == s.2 then oB ((e.2.1.length : Int) == 0) else oB false else none
    else bif inB e.1 l.length then bif inB e.1 l.length then oB (sides3 h i s p e) else none else none
  else none
def sides1 (h k i : Int) (s : Subset.D) (e : Int × List Int × Int) (l : List Subset.D) : Option AV :=
  bif e.2.2 != 0 then oB ((e.2.1.length : Int) == 0) else bif (pairsL h k i).2 != 0 then oB false else bif decide (e.1 < 0) then oB false else bif decide (e.1 ≥ (l.length : Int)) then oB false else
  sides2 h k i s e l (sAt l e.1)
theorem r303 (h k i : Int) (s : Subset.D) : run Γ303 noL [] F303 (encA [.v I, .v I, .v U, .v Subset] (h, k, i, s)) [] = sides1 h k i s (entryI h k i s) (pairsL h k i).1 := by kernel_rfl
theorem Γ303ok : OrcOk Try.prog Γ303 := .cons g308 (.cons g309 (.cons g310 (.cons g311 (.cons g312 (.cons g31 (.nil _))))))
end Go.AM.Seat
