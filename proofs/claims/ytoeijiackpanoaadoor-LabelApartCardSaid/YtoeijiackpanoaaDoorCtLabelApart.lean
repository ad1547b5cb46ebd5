/- Of an atom no two nodes have one value, no two subsets one label, and no two that may be of a scheme one key: the given card, for every input that the law lets in, with no further condition. -/
import Derived.Test.YtoeijiackpanoaaDoorSeLC
import Derived.Test.YtoeijiackpanoaaDoorRoLabelApart
set_option linter.unusedVariables false
namespace Go.Proofs.YtoeijiackpanoaaDoor
theorem labelApart_said : Rows.LabelApartCardSaid := Go.AM.Seat.card_labelApart Go.AM.Seat.good603
end Go.Proofs.YtoeijiackpanoaaDoor
