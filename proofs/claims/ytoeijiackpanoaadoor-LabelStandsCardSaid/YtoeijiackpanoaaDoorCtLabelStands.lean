/- What is made of terms stands for what is made, by the same walks, of the block: the given statement, for every input that it lets in, with no further condition. -/
import Derived.Test.YtoeijiackpanoaaDoorSeLS
import Derived.Test.YtoeijiackpanoaaDoorRoLabelStands
set_option linter.unusedVariables false
namespace Go.Proofs.YtoeijiackpanoaaDoor
theorem labelStands_said : Rows.LabelStandsCardSaid := Go.AM.Seat.card_labelStands Go.AM.Seat.good607
end Go.Proofs.YtoeijiackpanoaaDoor
