/- Any term found, and made, whether any terms may be, and whether two lists are the same, is what the definition says, and the list stays as it was: the given card, for every input that the law lets in, with no further condition. -/
import Derived.Test.YtnkdeglckmogcaaDoorSeTD
import Derived.Test.YtnkdeglckmogcaaDoorRoTermDoes
set_option linter.unusedVariables false
namespace Go.Proofs.YtnkdeglckmogcaaDoor
theorem termDoes_said : Rows.TermDoesCardSaid := Go.AM.Seat.card_termDoes Go.AM.Seat.good504
end Go.Proofs.YtnkdeglckmogcaaDoor
