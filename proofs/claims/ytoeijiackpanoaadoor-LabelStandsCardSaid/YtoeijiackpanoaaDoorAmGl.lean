/- Package variables whose contents are known: rows of strings (this seat's own list: what terms' texts begin with). -/
import Derived.Below
namespace Go.AM

/-- What package variables, by their numbers, are known to hold. -/
def glT : List (Nat × List ByteArray) := [(0, [⟨#[]⟩, ⟨#[97]⟩, ⟨#[76, 40]⟩, ⟨#[82, 40]⟩, ⟨#[75, 40]⟩, ⟨#[87, 40]⟩])]

end Go.AM
