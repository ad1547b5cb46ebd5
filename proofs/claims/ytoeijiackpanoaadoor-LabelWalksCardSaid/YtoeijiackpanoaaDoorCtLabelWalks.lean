/- Walked in two goes one comes to where one comes in one, and a node's value is that of the one above it, walked on by its side: the given card, for every input that the law lets in, with no further condition. -/
import Derived.Test.YtoeijiackpanoaaDoorSeLY
import Derived.Test.YtoeijiackpanoaaDoorRoLabelWalks
set_option linter.unusedVariables false
namespace Go.Proofs.YtoeijiackpanoaaDoor
theorem labelWalks_said : Rows.LabelWalksCardSaid := Go.AM.Seat.card_labelWalks Go.AM.Seat.good606
end Go.Proofs.YtoeijiackpanoaaDoor
