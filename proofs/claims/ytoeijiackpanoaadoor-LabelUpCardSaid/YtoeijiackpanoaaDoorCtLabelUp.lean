/- A subset's label is that of the same I with J one node above, walked on by one side: the given card, for every input that the law lets in, with no further condition. -/
import Derived.Test.YtoeijiackpanoaaDoorSeLU
import Derived.Test.YtoeijiackpanoaaDoorRoLabelUp
set_option linter.unusedVariables false
namespace Go.Proofs.YtoeijiackpanoaaDoor
theorem labelUp_said : Rows.LabelUpCardSaid := Go.AM.Seat.card_labelUp Go.AM.Seat.good604
end Go.Proofs.YtoeijiackpanoaaDoor
