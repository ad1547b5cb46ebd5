import Derived.Test.YthnonmlhgafalaaGreatZAmFn
set_option linter.unusedVariables false
namespace Go.AM.Seat
@[reducible] def I:Ty:= .int .i64
@[reducible] def U:Ty:= .int .u64
@[reducible] def Term:Ty:= .pair I (.pair I I)
@[reducible] def Block:Ty:= .pair U U
@[reducible] def Sealed:Ty:= .pair Block Block
@[reducible] def Value:Ty:= .pair .bool (.pair .bool (.pair Block (.pair Sealed I)))
end Go.AM.Seat
