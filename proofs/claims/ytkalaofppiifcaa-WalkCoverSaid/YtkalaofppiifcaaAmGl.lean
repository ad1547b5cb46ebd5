/- Package variables whose contents are known: rows of strings (a seat's own list). -/
import Derived.Below
namespace Go.AM

/-- What package variables, by their numbers, are known to hold. -/
def glT : List (Nat × List ByteArray) := []

end Go.AM
