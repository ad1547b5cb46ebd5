/- The seat: its table of types, and its numbers of functions. -/
import Derived.Test.YtnkdeglckmogcaaDoorAmTab
import Derived.Test.YtnkdeglckmogcaaDoorChecked
import Derived.Eval
import Derived.KernelRfl
set_option linter.unusedVariables false
namespace Go.AM.Seat
open Go Go.AM Go.Proofs

def tb : Tab := [
  (3, TI.scal (SV.int IntKind.i64 (Int.ofNat 0))),
  (4, TI.scal (SV.bool false)),
  (39, TI.slice 3 (Ty.int IntKind.i64) 8),
  (22, TI.slice 24 ((Ty.int IntKind.i64).pair ((Ty.int IntKind.i64).pair (Ty.int IntKind.i64))) 24),
  (54, TI.slice 5 (Ty.int IntKind.u8) 1),
  (9, TI.scal (SV.str ByteArray.empty)),
  (2, TI.scal (SV.int IntKind.i64 (Int.ofNat 0))),
  (5, TI.scal (SV.int IntKind.u8 (Int.ofNat 0))),
  (13, TI.struct 2 [SV.str ByteArray.empty, SV.int IntKind.u64 (Int.ofNat 0)] [(0, 1, false), (1, 1, false)] none),
  (21, TI.scal (SV.int IntKind.i32 (Int.ofNat 0))),
  (23, TI.struct 3 [SV.int IntKind.i64 (Int.ofNat 0), SV.int IntKind.i64 (Int.ofNat 0), SV.int IntKind.i64 (Int.ofNat 0)] [(0, 1, false), (1, 1, false), (2, 1, false)] (some [CK.int IntKind.i64, CK.int IntKind.i64, CK.int IntKind.i64])),
  (24, TI.struct 3 [SV.int IntKind.i64 (Int.ofNat 0), SV.int IntKind.i64 (Int.ofNat 0), SV.int IntKind.i64 (Int.ofNat 0)] [(0, 1, false), (1, 1, false), (2, 1, false)] (some [CK.int IntKind.i64, CK.int IntKind.i64, CK.int IntKind.i64])),
  (26, TI.scal (SV.int IntKind.i64 (Int.ofNat 0))),
  (45, TI.map ((Ty.int IntKind.i64).pair ((Ty.int IntKind.i64).pair (Ty.int IntKind.i64))) (Ty.int IntKind.i64)),
  (58, TI.struct 0 [] [] (some [])),
  (59, TI.map (Ty.int IntKind.i64) Ty.unit),
  (62, TI.slice 4 Ty.bool 1),
  (65, TI.array 6 [SV.str ByteArray.empty, SV.str ByteArray.empty, SV.str ByteArray.empty, SV.str ByteArray.empty, SV.str ByteArray.empty, SV.str ByteArray.empty] (some [CK.str, CK.str, CK.str, CK.str, CK.str, CK.str])),
  (68, TI.slice 9 Ty.str 16),
  (71, TI.scal (SV.int IntKind.u64 (Int.ofNat 0))),
  (74, TI.scal (SV.int IntKind.i64 (Int.ofNat 0))),
  (82, TI.scal (SV.int IntKind.u32 (Int.ofNat 0))),
  (84, TI.scal (SV.int IntKind.u64 (Int.ofNat 0))),
  (87, TI.scal (SV.int IntKind.u64 (Int.ofNat 0))),
  (93, TI.array 24 [SV.int IntKind.u8 (Int.ofNat 0), SV.int IntKind.u8 (Int.ofNat 0), SV.int IntKind.u8 (Int.ofNat 0), SV.int IntKind.u8 (Int.ofNat 0), SV.int IntKind.u8 (Int.ofNat 0), SV.int IntKind.u8 (Int.ofNat 0), SV.int IntKind.u8 (Int.ofNat 0), SV.int IntKind.u8 (Int.ofNat 0), SV.int IntKind.u8 (Int.ofNat 0), SV.int IntKind.u8 (Int.ofNat 0), SV.int IntKind.u8 (Int.ofNat 0), SV.int IntKind.u8 (Int.ofNat 0), SV.int IntKind.u8 (Int.ofNat 0), SV.int IntKind.u8 (Int.ofNat 0), SV.int IntKind.u8 (Int.ofNat 0), SV.int IntKind.u8 (Int.ofNat 0), SV.int IntKind.u8 (Int.ofNat 0), SV.int IntKind.u8 (Int.ofNat 0), SV.int IntKind.u8 (Int.ofNat 0), SV.int IntKind.u8 (Int.ofNat 0), SV.int IntKind.u8 (Int.ofNat 0), SV.int IntKind.u8 (Int.ofNat 0), SV.int IntKind.u8 (Int.ofNat 0), SV.int IntKind.u8 (Int.ofNat 0)] (some [CK.int IntKind.u8, CK.int IntKind.u8, CK.int IntKind.u8, CK.int IntKind.u8, CK.int IntKind.u8, CK.int IntKind.u8, CK.int IntKind.u8, CK.int IntKind.u8, CK.int IntKind.u8, CK.int IntKind.u8, CK.int IntKind.u8, CK.int IntKind.u8, CK.int IntKind.u8, CK.int IntKind.u8, CK.int IntKind.u8, CK.int IntKind.u8, CK.int IntKind.u8, CK.int IntKind.u8, CK.int IntKind.u8, CK.int IntKind.u8, CK.int IntKind.u8, CK.int IntKind.u8, CK.int IntKind.u8, CK.int IntKind.u8])),
  (102, TI.array 20 [SV.int IntKind.u64 (Int.ofNat 0), SV.int IntKind.u64 (Int.ofNat 0), SV.int IntKind.u64 (Int.ofNat 0), SV.int IntKind.u64 (Int.ofNat 0), SV.int IntKind.u64 (Int.ofNat 0), SV.int IntKind.u64 (Int.ofNat 0), SV.int IntKind.u64 (Int.ofNat 0), SV.int IntKind.u64 (Int.ofNat 0), SV.int IntKind.u64 (Int.ofNat 0), SV.int IntKind.u64 (Int.ofNat 0), SV.int IntKind.u64 (Int.ofNat 0), SV.int IntKind.u64 (Int.ofNat 0), SV.int IntKind.u64 (Int.ofNat 0), SV.int IntKind.u64 (Int.ofNat 0), SV.int IntKind.u64 (Int.ofNat 0), SV.int IntKind.u64 (Int.ofNat 0), SV.int IntKind.u64 (Int.ofNat 0), SV.int IntKind.u64 (Int.ofNat 0), SV.int IntKind.u64 (Int.ofNat 0), SV.int IntKind.u64 (Int.ofNat 0)] (some [CK.int IntKind.u64, CK.int IntKind.u64, CK.int IntKind.u64, CK.int IntKind.u64, CK.int IntKind.u64, CK.int IntKind.u64, CK.int IntKind.u64, CK.int IntKind.u64, CK.int IntKind.u64, CK.int IntKind.u64, CK.int IntKind.u64, CK.int IntKind.u64, CK.int IntKind.u64, CK.int IntKind.u64, CK.int IntKind.u64, CK.int IntKind.u64, CK.int IntKind.u64, CK.int IntKind.u64, CK.int IntKind.u64, CK.int IntKind.u64])),
  (103, TI.array 65 [SV.int IntKind.u8 (Int.ofNat 0), SV.int IntKind.u8 (Int.ofNat 0), SV.int IntKind.u8 (Int.ofNat 0), SV.int IntKind.u8 (Int.ofNat 0), SV.int IntKind.u8 (Int.ofNat 0), SV.int IntKind.u8 (Int.ofNat 0), SV.int IntKind.u8 (Int.ofNat 0), SV.int IntKind.u8 (Int.ofNat 0), SV.int IntKind.u8 (Int.ofNat 0), SV.int IntKind.u8 (Int.ofNat 0), SV.int IntKind.u8 (Int.ofNat 0), SV.int IntKind.u8 (Int.ofNat 0), SV.int IntKind.u8 (Int.ofNat 0), SV.int IntKind.u8 (Int.ofNat 0), SV.int IntKind.u8 (Int.ofNat 0), SV.int IntKind.u8 (Int.ofNat 0), SV.int IntKind.u8 (Int.ofNat 0), SV.int IntKind.u8 (Int.ofNat 0), SV.int IntKind.u8 (Int.ofNat 0), SV.int IntKind.u8 (Int.ofNat 0), SV.int IntKind.u8 (Int.ofNat 0), SV.int IntKind.u8 (Int.ofNat 0), SV.int IntKind.u8 (Int.ofNat 0), SV.int IntKind.u8 (Int.ofNat 0), SV.int IntKind.u8 (Int.ofNat 0), SV.int IntKind.u8 (Int.ofNat 0), SV.int IntKind.u8 (Int.ofNat 0), SV.int IntKind.u8 (Int.ofNat 0), SV.int IntKind.u8 (Int.ofNat 0), SV.int IntKind.u8 (Int.ofNat 0), SV.int IntKind.u8 (Int.ofNat 0), SV.int IntKind.u8 (Int.ofNat 0), SV.int IntKind.u8 (Int.ofNat 0), SV.int IntKind.u8 (Int.ofNat 0), SV.int IntKind.u8 (Int.ofNat 0), SV.int IntKind.u8 (Int.ofNat 0), SV.int IntKind.u8 (Int.ofNat 0), SV.int IntKind.u8 (Int.ofNat 0), SV.int IntKind.u8 (Int.ofNat 0), SV.int IntKind.u8 (Int.ofNat 0), SV.int IntKind.u8 (Int.ofNat 0), SV.int IntKind.u8 (Int.ofNat 0), SV.int IntKind.u8 (Int.ofNat 0), SV.int IntKind.u8 (Int.ofNat 0), SV.int IntKind.u8 (Int.ofNat 0), SV.int IntKind.u8 (Int.ofNat 0), SV.int IntKind.u8 (Int.ofNat 0), SV.int IntKind.u8 (Int.ofNat 0), SV.int IntKind.u8 (Int.ofNat 0), SV.int IntKind.u8 (Int.ofNat 0), SV.int IntKind.u8 (Int.ofNat 0), SV.int IntKind.u8 (Int.ofNat 0), SV.int IntKind.u8 (Int.ofNat 0), SV.int IntKind.u8 (Int.ofNat 0), SV.int IntKind.u8 (Int.ofNat 0), SV.int IntKind.u8 (Int.ofNat 0), SV.int IntKind.u8 (Int.ofNat 0), SV.int IntKind.u8 (Int.ofNat 0), SV.int IntKind.u8 (Int.ofNat 0), SV.int IntKind.u8 (Int.ofNat 0), SV.int IntKind.u8 (Int.ofNat 0), SV.int IntKind.u8 (Int.ofNat 0), SV.int IntKind.u8 (Int.ofNat 0), SV.int IntKind.u8 (Int.ofNat 0), SV.int IntKind.u8 (Int.ofNat 0)] (some [CK.int IntKind.u8, CK.int IntKind.u8, CK.int IntKind.u8, CK.int IntKind.u8, CK.int IntKind.u8, CK.int IntKind.u8, CK.int IntKind.u8, CK.int IntKind.u8, CK.int IntKind.u8, CK.int IntKind.u8, CK.int IntKind.u8, CK.int IntKind.u8, CK.int IntKind.u8, CK.int IntKind.u8, CK.int IntKind.u8, CK.int IntKind.u8, CK.int IntKind.u8, CK.int IntKind.u8, CK.int IntKind.u8, CK.int IntKind.u8, CK.int IntKind.u8, CK.int IntKind.u8, CK.int IntKind.u8, CK.int IntKind.u8, CK.int IntKind.u8, CK.int IntKind.u8, CK.int IntKind.u8, CK.int IntKind.u8, CK.int IntKind.u8, CK.int IntKind.u8, CK.int IntKind.u8, CK.int IntKind.u8, CK.int IntKind.u8, CK.int IntKind.u8, CK.int IntKind.u8, CK.int IntKind.u8, CK.int IntKind.u8, CK.int IntKind.u8, CK.int IntKind.u8, CK.int IntKind.u8, CK.int IntKind.u8, CK.int IntKind.u8, CK.int IntKind.u8, CK.int IntKind.u8, CK.int IntKind.u8, CK.int IntKind.u8, CK.int IntKind.u8, CK.int IntKind.u8, CK.int IntKind.u8, CK.int IntKind.u8, CK.int IntKind.u8, CK.int IntKind.u8, CK.int IntKind.u8, CK.int IntKind.u8, CK.int IntKind.u8, CK.int IntKind.u8, CK.int IntKind.u8, CK.int IntKind.u8, CK.int IntKind.u8, CK.int IntKind.u8, CK.int IntKind.u8, CK.int IntKind.u8, CK.int IntKind.u8, CK.int IntKind.u8, CK.int IntKind.u8])),
  (104, TI.array 32 [SV.int IntKind.u8 (Int.ofNat 0), SV.int IntKind.u8 (Int.ofNat 0), SV.int IntKind.u8 (Int.ofNat 0), SV.int IntKind.u8 (Int.ofNat 0), SV.int IntKind.u8 (Int.ofNat 0), SV.int IntKind.u8 (Int.ofNat 0), SV.int IntKind.u8 (Int.ofNat 0), SV.int IntKind.u8 (Int.ofNat 0), SV.int IntKind.u8 (Int.ofNat 0), SV.int IntKind.u8 (Int.ofNat 0), SV.int IntKind.u8 (Int.ofNat 0), SV.int IntKind.u8 (Int.ofNat 0), SV.int IntKind.u8 (Int.ofNat 0), SV.int IntKind.u8 (Int.ofNat 0), SV.int IntKind.u8 (Int.ofNat 0), SV.int IntKind.u8 (Int.ofNat 0), SV.int IntKind.u8 (Int.ofNat 0), SV.int IntKind.u8 (Int.ofNat 0), SV.int IntKind.u8 (Int.ofNat 0), SV.int IntKind.u8 (Int.ofNat 0), SV.int IntKind.u8 (Int.ofNat 0), SV.int IntKind.u8 (Int.ofNat 0), SV.int IntKind.u8 (Int.ofNat 0), SV.int IntKind.u8 (Int.ofNat 0), SV.int IntKind.u8 (Int.ofNat 0), SV.int IntKind.u8 (Int.ofNat 0), SV.int IntKind.u8 (Int.ofNat 0), SV.int IntKind.u8 (Int.ofNat 0), SV.int IntKind.u8 (Int.ofNat 0), SV.int IntKind.u8 (Int.ofNat 0), SV.int IntKind.u8 (Int.ofNat 0), SV.int IntKind.u8 (Int.ofNat 0)] (some [CK.int IntKind.u8, CK.int IntKind.u8, CK.int IntKind.u8, CK.int IntKind.u8, CK.int IntKind.u8, CK.int IntKind.u8, CK.int IntKind.u8, CK.int IntKind.u8, CK.int IntKind.u8, CK.int IntKind.u8, CK.int IntKind.u8, CK.int IntKind.u8, CK.int IntKind.u8, CK.int IntKind.u8, CK.int IntKind.u8, CK.int IntKind.u8, CK.int IntKind.u8, CK.int IntKind.u8, CK.int IntKind.u8, CK.int IntKind.u8, CK.int IntKind.u8, CK.int IntKind.u8, CK.int IntKind.u8, CK.int IntKind.u8, CK.int IntKind.u8, CK.int IntKind.u8, CK.int IntKind.u8, CK.int IntKind.u8, CK.int IntKind.u8, CK.int IntKind.u8, CK.int IntKind.u8, CK.int IntKind.u8])),
  (105, TI.array 64 [SV.int IntKind.u8 (Int.ofNat 0), SV.int IntKind.u8 (Int.ofNat 0), SV.int IntKind.u8 (Int.ofNat 0), SV.int IntKind.u8 (Int.ofNat 0), SV.int IntKind.u8 (Int.ofNat 0), SV.int IntKind.u8 (Int.ofNat 0), SV.int IntKind.u8 (Int.ofNat 0), SV.int IntKind.u8 (Int.ofNat 0), SV.int IntKind.u8 (Int.ofNat 0), SV.int IntKind.u8 (Int.ofNat 0), SV.int IntKind.u8 (Int.ofNat 0), SV.int IntKind.u8 (Int.ofNat 0), SV.int IntKind.u8 (Int.ofNat 0), SV.int IntKind.u8 (Int.ofNat 0), SV.int IntKind.u8 (Int.ofNat 0), SV.int IntKind.u8 (Int.ofNat 0), SV.int IntKind.u8 (Int.ofNat 0), SV.int IntKind.u8 (Int.ofNat 0), SV.int IntKind.u8 (Int.ofNat 0), SV.int IntKind.u8 (Int.ofNat 0), SV.int IntKind.u8 (Int.ofNat 0), SV.int IntKind.u8 (Int.ofNat 0), SV.int IntKind.u8 (Int.ofNat 0), SV.int IntKind.u8 (Int.ofNat 0), SV.int IntKind.u8 (Int.ofNat 0), SV.int IntKind.u8 (Int.ofNat 0), SV.int IntKind.u8 (Int.ofNat 0), SV.int IntKind.u8 (Int.ofNat 0), SV.int IntKind.u8 (Int.ofNat 0), SV.int IntKind.u8 (Int.ofNat 0), SV.int IntKind.u8 (Int.ofNat 0), SV.int IntKind.u8 (Int.ofNat 0), SV.int IntKind.u8 (Int.ofNat 0), SV.int IntKind.u8 (Int.ofNat 0), SV.int IntKind.u8 (Int.ofNat 0), SV.int IntKind.u8 (Int.ofNat 0), SV.int IntKind.u8 (Int.ofNat 0), SV.int IntKind.u8 (Int.ofNat 0), SV.int IntKind.u8 (Int.ofNat 0), SV.int IntKind.u8 (Int.ofNat 0), SV.int IntKind.u8 (Int.ofNat 0), SV.int IntKind.u8 (Int.ofNat 0), SV.int IntKind.u8 (Int.ofNat 0), SV.int IntKind.u8 (Int.ofNat 0), SV.int IntKind.u8 (Int.ofNat 0), SV.int IntKind.u8 (Int.ofNat 0), SV.int IntKind.u8 (Int.ofNat 0), SV.int IntKind.u8 (Int.ofNat 0), SV.int IntKind.u8 (Int.ofNat 0), SV.int IntKind.u8 (Int.ofNat 0), SV.int IntKind.u8 (Int.ofNat 0), SV.int IntKind.u8 (Int.ofNat 0), SV.int IntKind.u8 (Int.ofNat 0), SV.int IntKind.u8 (Int.ofNat 0), SV.int IntKind.u8 (Int.ofNat 0), SV.int IntKind.u8 (Int.ofNat 0), SV.int IntKind.u8 (Int.ofNat 0), SV.int IntKind.u8 (Int.ofNat 0), SV.int IntKind.u8 (Int.ofNat 0), SV.int IntKind.u8 (Int.ofNat 0), SV.int IntKind.u8 (Int.ofNat 0), SV.int IntKind.u8 (Int.ofNat 0), SV.int IntKind.u8 (Int.ofNat 0), SV.int IntKind.u8 (Int.ofNat 0)] (some [CK.int IntKind.u8, CK.int IntKind.u8, CK.int IntKind.u8, CK.int IntKind.u8, CK.int IntKind.u8, CK.int IntKind.u8, CK.int IntKind.u8, CK.int IntKind.u8, CK.int IntKind.u8, CK.int IntKind.u8, CK.int IntKind.u8, CK.int IntKind.u8, CK.int IntKind.u8, CK.int IntKind.u8, CK.int IntKind.u8, CK.int IntKind.u8, CK.int IntKind.u8, CK.int IntKind.u8, CK.int IntKind.u8, CK.int IntKind.u8, CK.int IntKind.u8, CK.int IntKind.u8, CK.int IntKind.u8, CK.int IntKind.u8, CK.int IntKind.u8, CK.int IntKind.u8, CK.int IntKind.u8, CK.int IntKind.u8, CK.int IntKind.u8, CK.int IntKind.u8, CK.int IntKind.u8, CK.int IntKind.u8, CK.int IntKind.u8, CK.int IntKind.u8, CK.int IntKind.u8, CK.int IntKind.u8, CK.int IntKind.u8, CK.int IntKind.u8, CK.int IntKind.u8, CK.int IntKind.u8, CK.int IntKind.u8, CK.int IntKind.u8, CK.int IntKind.u8, CK.int IntKind.u8, CK.int IntKind.u8, CK.int IntKind.u8, CK.int IntKind.u8, CK.int IntKind.u8, CK.int IntKind.u8, CK.int IntKind.u8, CK.int IntKind.u8, CK.int IntKind.u8, CK.int IntKind.u8, CK.int IntKind.u8, CK.int IntKind.u8, CK.int IntKind.u8, CK.int IntKind.u8, CK.int IntKind.u8, CK.int IntKind.u8, CK.int IntKind.u8, CK.int IntKind.u8, CK.int IntKind.u8, CK.int IntKind.u8, CK.int IntKind.u8]))]
def tbTypes : List TypeId := [3, 4, 39, 22, 54, 9, 2, 5, 13, 21, 23, 24, 26, 45, 58, 59, 62, 65, 68, 71, 74, 82, 84, 87, 93, 102, 103, 104, 105]

theorem tbOk : TabOk Tryd.prog tb := mkTab_ok (Ts := tbTypes) (by kernel_rfl)
theorem mixed : Tryd.prog.follows .mixedOrders = true := Tryd.checked.mixed

@[reducible] def N26 : FuncId := 14
noncomputable abbrev F26 : Func := Tryd.f14
theorem H26 : Tryd.prog.funcs[N26]? = some F26 := Tryd.func14
@[reducible] def N31 : FuncId := 23
noncomputable abbrev F31 : Func := Tryd.f23
theorem H31 : Tryd.prog.funcs[N31]? = some F31 := Tryd.func23
@[reducible] def N35 : FuncId := 21
noncomputable abbrev F35 : Func := Tryd.f21
theorem H35 : Tryd.prog.funcs[N35]? = some F35 := Tryd.func21
@[reducible] def N36 : FuncId := 24
noncomputable abbrev F36 : Func := Tryd.f24
theorem H36 : Tryd.prog.funcs[N36]? = some F36 := Tryd.func24
@[reducible] def N47 : FuncId := 27
noncomputable abbrev F47 : Func := Tryd.f27
theorem H47 : Tryd.prog.funcs[N47]? = some F47 := Tryd.func27
@[reducible] def N49 : FuncId := 9
noncomputable abbrev F49 : Func := Tryd.f9
theorem H49 : Tryd.prog.funcs[N49]? = some F49 := Tryd.func9
@[reducible] def N51 : FuncId := 15
noncomputable abbrev F51 : Func := Tryd.f15
theorem H51 : Tryd.prog.funcs[N51]? = some F51 := Tryd.func15
@[reducible] def N65 : FuncId := 37
noncomputable abbrev F65 : Func := Tryd.f37
theorem H65 : Tryd.prog.funcs[N65]? = some F65 := Tryd.func37
@[reducible] def N67 : FuncId := 38
noncomputable abbrev F67 : Func := Tryd.f38
theorem H67 : Tryd.prog.funcs[N67]? = some F67 := Tryd.func38
@[reducible] def N73 : FuncId := 31
noncomputable abbrev F73 : Func := Tryd.f31
theorem H73 : Tryd.prog.funcs[N73]? = some F73 := Tryd.func31
@[reducible] def N74 : FuncId := 36
noncomputable abbrev F74 : Func := Tryd.f36
theorem H74 : Tryd.prog.funcs[N74]? = some F74 := Tryd.func36
@[reducible] def N83 : FuncId := 22
noncomputable abbrev F83 : Func := Tryd.f22
theorem H83 : Tryd.prog.funcs[N83]? = some F83 := Tryd.func22
@[reducible] def N84 : FuncId := 11
noncomputable abbrev F84 : Func := Tryd.f11
theorem H84 : Tryd.prog.funcs[N84]? = some F84 := Tryd.func11
@[reducible] def N88 : FuncId := 25
noncomputable abbrev F88 : Func := Tryd.f25
theorem H88 : Tryd.prog.funcs[N88]? = some F88 := Tryd.func25
@[reducible] def N89 : FuncId := 13
noncomputable abbrev F89 : Func := Tryd.f13
theorem H89 : Tryd.prog.funcs[N89]? = some F89 := Tryd.func13
@[reducible] def N90 : FuncId := 28
noncomputable abbrev F90 : Func := Tryd.f28
theorem H90 : Tryd.prog.funcs[N90]? = some F90 := Tryd.func28
@[reducible] def N91 : FuncId := 29
noncomputable abbrev F91 : Func := Tryd.f29
theorem H91 : Tryd.prog.funcs[N91]? = some F91 := Tryd.func29
@[reducible] def N97 : FuncId := 43
noncomputable abbrev F97 : Func := Tryd.f43
theorem H97 : Tryd.prog.funcs[N97]? = some F97 := Tryd.func43
@[reducible] def N98 : FuncId := 44
noncomputable abbrev F98 : Func := Tryd.f44
theorem H98 : Tryd.prog.funcs[N98]? = some F98 := Tryd.func44
@[reducible] def N99 : FuncId := 54
noncomputable abbrev F99 : Func := Tryd.f54
theorem H99 : Tryd.prog.funcs[N99]? = some F99 := Tryd.func54
@[reducible] def N101 : FuncId := 45
noncomputable abbrev F101 : Func := Tryd.f45
theorem H101 : Tryd.prog.funcs[N101]? = some F101 := Tryd.func45
@[reducible] def N102 : FuncId := 34
noncomputable abbrev F102 : Func := Tryd.f34
theorem H102 : Tryd.prog.funcs[N102]? = some F102 := Tryd.func34
@[reducible] def N103 : FuncId := 10
noncomputable abbrev F103 : Func := Tryd.f10
theorem H103 : Tryd.prog.funcs[N103]? = some F103 := Tryd.func10
@[reducible] def N104 : FuncId := 26
noncomputable abbrev F104 : Func := Tryd.f26
theorem H104 : Tryd.prog.funcs[N104]? = some F104 := Tryd.func26
@[reducible] def N105 : FuncId := 12
noncomputable abbrev F105 : Func := Tryd.f12
theorem H105 : Tryd.prog.funcs[N105]? = some F105 := Tryd.func12
@[reducible] def N110 : FuncId := 48
noncomputable abbrev F110 : Func := Tryd.f48
theorem H110 : Tryd.prog.funcs[N110]? = some F110 := Tryd.func48
@[reducible] def N111 : FuncId := 49
noncomputable abbrev F111 : Func := Tryd.f49
theorem H111 : Tryd.prog.funcs[N111]? = some F111 := Tryd.func49
@[reducible] def N112 : FuncId := 50
noncomputable abbrev F112 : Func := Tryd.f50
theorem H112 : Tryd.prog.funcs[N112]? = some F112 := Tryd.func50
@[reducible] def N113 : FuncId := 51
noncomputable abbrev F113 : Func := Tryd.f51
theorem H113 : Tryd.prog.funcs[N113]? = some F113 := Tryd.func51
@[reducible] def N114 : FuncId := 52
noncomputable abbrev F114 : Func := Tryd.f52
theorem H114 : Tryd.prog.funcs[N114]? = some F114 := Tryd.func52
@[reducible] def N115 : FuncId := 53
noncomputable abbrev F115 : Func := Tryd.f53
theorem H115 : Tryd.prog.funcs[N115]? = some F115 := Tryd.func53
@[reducible] def N116 : FuncId := 55
noncomputable abbrev F116 : Func := Tryd.f55
theorem H116 : Tryd.prog.funcs[N116]? = some F116 := Tryd.func55
@[reducible] def N117 : FuncId := 56
noncomputable abbrev F117 : Func := Tryd.f56
theorem H117 : Tryd.prog.funcs[N117]? = some F117 := Tryd.func56
@[reducible] def N118 : FuncId := 57
noncomputable abbrev F118 : Func := Tryd.f57
theorem H118 : Tryd.prog.funcs[N118]? = some F118 := Tryd.func57
@[reducible] def N119 : FuncId := 58
noncomputable abbrev F119 : Func := Tryd.f58
theorem H119 : Tryd.prog.funcs[N119]? = some F119 := Tryd.func58
@[reducible] def N120 : FuncId := 66
noncomputable abbrev F120 : Func := Tryd.f66
theorem H120 : Tryd.prog.funcs[N120]? = some F120 := Tryd.func66
@[reducible] def N121 : FuncId := 39
noncomputable abbrev F121 : Func := Tryd.f39
theorem H121 : Tryd.prog.funcs[N121]? = some F121 := Tryd.func39
@[reducible] def N124 : FuncId := 61
noncomputable abbrev F124 : Func := Tryd.f61
theorem H124 : Tryd.prog.funcs[N124]? = some F124 := Tryd.func61
@[reducible] def N125 : FuncId := 62
noncomputable abbrev F125 : Func := Tryd.f62
theorem H125 : Tryd.prog.funcs[N125]? = some F125 := Tryd.func62
@[reducible] def N126 : FuncId := 63
noncomputable abbrev F126 : Func := Tryd.f63
theorem H126 : Tryd.prog.funcs[N126]? = some F126 := Tryd.func63
@[reducible] def N127 : FuncId := 64
noncomputable abbrev F127 : Func := Tryd.f64
theorem H127 : Tryd.prog.funcs[N127]? = some F127 := Tryd.func64
@[reducible] def N128 : FuncId := 65
noncomputable abbrev F128 : Func := Tryd.f65
theorem H128 : Tryd.prog.funcs[N128]? = some F128 := Tryd.func65
@[reducible] def N129 : FuncId := 71
noncomputable abbrev F129 : Func := Tryd.f71
theorem H129 : Tryd.prog.funcs[N129]? = some F129 := Tryd.func71
@[reducible] def N503 : FuncId := 3
noncomputable abbrev F503 : Func := Tryd.f3
theorem H503 : Tryd.prog.funcs[N503]? = some F503 := Tryd.func3
@[reducible] def N504 : FuncId := 4
noncomputable abbrev F504 : Func := Tryd.f4
theorem H504 : Tryd.prog.funcs[N504]? = some F504 := Tryd.func4
@[reducible] def N505 : FuncId := 5
noncomputable abbrev F505 : Func := Tryd.f5
theorem H505 : Tryd.prog.funcs[N505]? = some F505 := Tryd.func5
@[reducible] def N506 : FuncId := 6
noncomputable abbrev F506 : Func := Tryd.f6
theorem H506 : Tryd.prog.funcs[N506]? = some F506 := Tryd.func6
@[reducible] def N507 : FuncId := 7
noncomputable abbrev F507 : Func := Tryd.f7
theorem H507 : Tryd.prog.funcs[N507]? = some F507 := Tryd.func7
@[reducible] def N508 : FuncId := 8
noncomputable abbrev F508 : Func := Tryd.f8
theorem H508 : Tryd.prog.funcs[N508]? = some F508 := Tryd.func8
@[reducible] def N516 : FuncId := 16
noncomputable abbrev F516 : Func := Tryd.f16
theorem H516 : Tryd.prog.funcs[N516]? = some F516 := Tryd.func16
@[reducible] def N517 : FuncId := 17
noncomputable abbrev F517 : Func := Tryd.f17
theorem H517 : Tryd.prog.funcs[N517]? = some F517 := Tryd.func17
@[reducible] def N518 : FuncId := 18
noncomputable abbrev F518 : Func := Tryd.f18
theorem H518 : Tryd.prog.funcs[N518]? = some F518 := Tryd.func18
@[reducible] def N519 : FuncId := 19
noncomputable abbrev F519 : Func := Tryd.f19
theorem H519 : Tryd.prog.funcs[N519]? = some F519 := Tryd.func19
@[reducible] def N520 : FuncId := 20
noncomputable abbrev F520 : Func := Tryd.f20
theorem H520 : Tryd.prog.funcs[N520]? = some F520 := Tryd.func20
@[reducible] def N530 : FuncId := 30
noncomputable abbrev F530 : Func := Tryd.f30
theorem H530 : Tryd.prog.funcs[N530]? = some F530 := Tryd.func30
@[reducible] def N532 : FuncId := 32
noncomputable abbrev F532 : Func := Tryd.f32
theorem H532 : Tryd.prog.funcs[N532]? = some F532 := Tryd.func32
@[reducible] def N533 : FuncId := 33
noncomputable abbrev F533 : Func := Tryd.f33
theorem H533 : Tryd.prog.funcs[N533]? = some F533 := Tryd.func33
@[reducible] def N535 : FuncId := 35
noncomputable abbrev F535 : Func := Tryd.f35
theorem H535 : Tryd.prog.funcs[N535]? = some F535 := Tryd.func35
@[reducible] def N540 : FuncId := 40
noncomputable abbrev F540 : Func := Tryd.f40
theorem H540 : Tryd.prog.funcs[N540]? = some F540 := Tryd.func40
@[reducible] def N541 : FuncId := 41
noncomputable abbrev F541 : Func := Tryd.f41
theorem H541 : Tryd.prog.funcs[N541]? = some F541 := Tryd.func41
@[reducible] def N542 : FuncId := 42
noncomputable abbrev F542 : Func := Tryd.f42
theorem H542 : Tryd.prog.funcs[N542]? = some F542 := Tryd.func42
@[reducible] def N546 : FuncId := 46
noncomputable abbrev F546 : Func := Tryd.f46
theorem H546 : Tryd.prog.funcs[N546]? = some F546 := Tryd.func46
@[reducible] def N547 : FuncId := 47
noncomputable abbrev F547 : Func := Tryd.f47
theorem H547 : Tryd.prog.funcs[N547]? = some F547 := Tryd.func47
@[reducible] def N559 : FuncId := 59
noncomputable abbrev F559 : Func := Tryd.f59
theorem H559 : Tryd.prog.funcs[N559]? = some F559 := Tryd.func59
@[reducible] def N560 : FuncId := 60
noncomputable abbrev F560 : Func := Tryd.f60
theorem H560 : Tryd.prog.funcs[N560]? = some F560 := Tryd.func60
@[reducible] def N567 : FuncId := 67
noncomputable abbrev F567 : Func := Tryd.f67
theorem H567 : Tryd.prog.funcs[N567]? = some F567 := Tryd.func67
@[reducible] def N568 : FuncId := 68
noncomputable abbrev F568 : Func := Tryd.f68
theorem H568 : Tryd.prog.funcs[N568]? = some F568 := Tryd.func68
@[reducible] def N569 : FuncId := 69
noncomputable abbrev F569 : Func := Tryd.f69
theorem H569 : Tryd.prog.funcs[N569]? = some F569 := Tryd.func69
@[reducible] def N570 : FuncId := 70
noncomputable abbrev F570 : Func := Tryd.f70
theorem H570 : Tryd.prog.funcs[N570]? = some F570 := Tryd.func70
@[reducible] def N572 : FuncId := 72
noncomputable abbrev F572 : Func := Tryd.f72
theorem H572 : Tryd.prog.funcs[N572]? = some F572 := Tryd.func72
@[reducible] def N573 : FuncId := 73
noncomputable abbrev F573 : Func := Tryd.f73
theorem H573 : Tryd.prog.funcs[N573]? = some F573 := Tryd.func73
@[reducible] def N574 : FuncId := 74
noncomputable abbrev F574 : Func := Tryd.f74
theorem H574 : Tryd.prog.funcs[N574]? = some F574 := Tryd.func74
@[reducible] def N575 : FuncId := 75
noncomputable abbrev F575 : Func := Tryd.f75
theorem H575 : Tryd.prog.funcs[N575]? = some F575 := Tryd.func75
@[reducible] def N576 : FuncId := 76
noncomputable abbrev F576 : Func := Tryd.f76
theorem H576 : Tryd.prog.funcs[N576]? = some F576 := Tryd.func76
@[reducible] def N577 : FuncId := 77
noncomputable abbrev F577 : Func := Tryd.f77
theorem H577 : Tryd.prog.funcs[N577]? = some F577 := Tryd.func77
@[reducible] def headsT : TypeId := 65
@[reducible] def strT : TypeId := 9
end Go.AM.Seat
