/- Of each cover a leaf that is not in the set is in the first subset that is told, and in none else; one of the set is in none: the given statement, for every input that it lets in, with no further condition. -/
import Derived.Test.YtkalaofppiifcaaPlWC
import Derived.Test.YtkalaofppiifcaaRoWalkCover
set_option linter.unusedVariables false
namespace Go.Proofs.Ytkalaofppiifcaa
theorem walkCover_said : Rows.WalkCoverSaid := Go.AM.Seat.said_walkCover Go.AM.Seat.good307
end Go.Proofs.Ytkalaofppiifcaa
