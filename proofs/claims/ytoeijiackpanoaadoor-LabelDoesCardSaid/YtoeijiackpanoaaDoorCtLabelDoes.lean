/- Walks, nodes, labels and keys come to what the definition says, and touch nothing that was given: the given card, for every input that the law lets in, with no further condition. -/
import Derived.Test.YtoeijiackpanoaaDoorSeLD
import Derived.Test.YtoeijiackpanoaaDoorRoLabelDoes
set_option linter.unusedVariables false
namespace Go.Proofs.YtoeijiackpanoaaDoor
theorem labelDoes_said : Rows.LabelDoesCardSaid := Go.AM.Seat.card_labelDoes Go.AM.Seat.good605
end Go.Proofs.YtoeijiackpanoaaDoor
