import Derived.Below
namespace Go.AM
def glT:List (Nat×List ByteArray):=[]
end Go.AM
