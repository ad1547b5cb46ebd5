/- The seat: contracts: labels: a node's value; the example that each law of labels runs. -/
import Derived.Test.YtoeijiackpanoaaDoorSeLv6
set_option linter.unusedVariables false
set_option maxRecDepth 100000
namespace Go.AM.Seat
open Go Go.AM Go.Proofs

def noNode (l : List Term.D) (h : Int) (v : Value.D) (n : Int) : Bool := bif startE l v != 0 then true else chkI h n != 0
def nodeV (l : List Term.D) (h : Int) (v : Value.D) (n : Int) : WS := bif noNode l h v n then (zeroV, [], 1) else endW (pathW (startW l v) h 1 n)
def Γ609 : Orc := orc [(N351, s351), (N366, s366), (N385, s385), (N354, s354)]
@[reducible] def L4n : List AK := [.v (.sl Term), .v I, .v Value, .v U]
theorem r609 (l : List Term.D) (h : Int) (v : Value.D) (n : Int) : runG Γ609 noL 1 [] F609 (encA L4n (l, h, v, n)) wVle =
    bif small24 l.length then bif noNode l h v n then some (vle (zeroV, [], 1)) else some (vle (endW (pathW (startW l v) h 1 n))) else none := by kernel_rfl
def s609 : Sp := .fn L4n fun x => (small24 x.1.length, vle (nodeV x.1 x.2.1 x.2.2.1 x.2.2.2))
theorem g609 : GoodS Tryd.prog N609 s609 := by
  refine goodG (.cons g351 (.cons g366 (.cons g385 (.cons g354 (.nil _))))) H609 rfl (by kernel_rfl) noL 1 [] (noLoops (by kernel_rfl)) L4n (by decide) wVle _ fun x r hw e => ?_
  obtain ⟨l, h, v, n⟩ := x
  have e1 := congrArg Prod.fst e
  have e2 := congrArg Prod.snd e
  simp only at e1 e2
  refine (r609 l h v n).trans ?_
  rw [e1, ← e2]
  unfold nodeV
  cases noNode l h v n <;> rfl
theorem r608 : run (orc [(N320, s320), (N517, .raw s517x)]) noL [] F608 [] [] = some (.one (.bool (text0.toList == text0.toList))) := by kernel_rfl
theorem g608 : GoodS Tryd.prog N608 sLive := goodRaw H608 rfl (by kernel_rfl) fun l r h => by
  obtain ⟨rfl, rfl⟩ := nolist_some h
  exact goodRun (.cons g320 (.cons g517x (.nil _))) H608 rfl noL [] (noLoops (by kernel_rfl)) _ (by decide) [] (r608.trans (by rw [beq_self_eq_true]))
end Go.AM.Seat
