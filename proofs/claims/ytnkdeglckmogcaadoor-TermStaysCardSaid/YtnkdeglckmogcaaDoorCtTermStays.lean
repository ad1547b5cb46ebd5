/- What was found in a list of terms stays where it was, whatever is made behind it, and the terms up to any place may be by themselves: the given card, for every input that the law lets in, with no further condition. -/
import Derived.Test.YtnkdeglckmogcaaDoorSeTS
import Derived.Test.YtnkdeglckmogcaaDoorRoTermStays
set_option linter.unusedVariables false
namespace Go.Proofs.YtnkdeglckmogcaaDoor
theorem termStays_said : Rows.TermStaysCardSaid := Go.AM.Seat.card_termStays Go.AM.Seat.good503
end Go.Proofs.YtnkdeglckmogcaaDoor
