/- Of each that is known there is a chain, whose last one it is; of none else there is one: the given statement, for every input that it lets in, with no further condition. -/
import Derived.Test.YtnkdeglckmogcaaSeKW
import Derived.Test.YtnkdeglckmogcaaRoKnowWhy
set_option linter.unusedVariables false
namespace Go.Proofs.Ytnkdeglckmogcaa
theorem knowWhy_said : Rows.KnowWhySaid := Go.AM.Seat.said_knowWhy Go.AM.Seat.good12
end Go.Proofs.Ytnkdeglckmogcaa
