/- The seat: its table of types, and its numbers of functions. -/
import Derived.Test.YtoeijiackpanoaaDoorAmTab
import Derived.Test.YtoeijiackpanoaaDoorChecked
import Derived.Eval
import Derived.KernelRfl
set_option linter.unusedVariables false
namespace Go.AM.Seat
open Go Go.AM Go.Proofs

def tb : Tab := [
  (3, TI.scal (SV.int IntKind.i64 (Int.ofNat 0))),
  (4, TI.scal (SV.bool false)),
  (44, TI.slice 3 (Ty.int IntKind.i64) 8),
  (28, TI.slice 27 ((Ty.int IntKind.i64).pair ((Ty.int IntKind.i64).pair (Ty.int IntKind.i64))) 24),
  (84, TI.slice 5 (Ty.int IntKind.u8) 1),
  (9, TI.scal (SV.str ByteArray.empty)),
  (22, TI.scal (SV.int IntKind.u64 (Int.ofNat 0))),
  (2, TI.scal (SV.int IntKind.i64 (Int.ofNat 0))),
  (5, TI.scal (SV.int IntKind.u8 (Int.ofNat 0))),
  (13, TI.struct 2 [SV.str ByteArray.empty, SV.int IntKind.u64 (Int.ofNat 0)] [(0, 1, false), (1, 1, false)] none),
  (21, TI.scal (SV.int IntKind.i32 (Int.ofNat 0))),
  (23, TI.struct 2 [SV.int IntKind.u64 (Int.ofNat 0), SV.int IntKind.u64 (Int.ofNat 0)] [(0, 1, false), (1, 1, false)] (some [CK.int IntKind.u64, CK.int IntKind.u64])),
  (24, TI.struct 2 [SV.int IntKind.u64 (Int.ofNat 0), SV.int IntKind.u64 (Int.ofNat 0)] [(0, 1, false), (1, 1, false)] (some [CK.int IntKind.u64, CK.int IntKind.u64])),
  (26, TI.struct 3 [SV.int IntKind.i64 (Int.ofNat 0), SV.int IntKind.i64 (Int.ofNat 0), SV.int IntKind.i64 (Int.ofNat 0)] [(0, 1, false), (1, 1, false), (2, 1, false)] (some [CK.int IntKind.i64, CK.int IntKind.i64, CK.int IntKind.i64])),
  (27, TI.struct 3 [SV.int IntKind.i64 (Int.ofNat 0), SV.int IntKind.i64 (Int.ofNat 0), SV.int IntKind.i64 (Int.ofNat 0)] [(0, 1, false), (1, 1, false), (2, 1, false)] (some [CK.int IntKind.i64, CK.int IntKind.i64, CK.int IntKind.i64])),
  (29, TI.array 2 [SV.int IntKind.u64 (Int.ofNat 0), SV.int IntKind.u64 (Int.ofNat 0)] (some [CK.int IntKind.u64, CK.int IntKind.u64])),
  (30, TI.array 2 [SV.int IntKind.u64 (Int.ofNat 0), SV.int IntKind.u64 (Int.ofNat 0)] (some [CK.int IntKind.u64, CK.int IntKind.u64])),
  (31, TI.struct 4 [SV.int IntKind.u64 (Int.ofNat 0), SV.int IntKind.u64 (Int.ofNat 0), SV.int IntKind.u64 (Int.ofNat 0), SV.int IntKind.u64 (Int.ofNat 0)] [(0, 2, true), (2, 2, true)] (some [CK.int IntKind.u64, CK.int IntKind.u64, CK.int IntKind.u64, CK.int IntKind.u64])),
  (32, TI.struct 4 [SV.int IntKind.u64 (Int.ofNat 0), SV.int IntKind.u64 (Int.ofNat 0), SV.int IntKind.u64 (Int.ofNat 0), SV.int IntKind.u64 (Int.ofNat 0)] [(0, 2, true), (2, 2, true)] (some [CK.int IntKind.u64, CK.int IntKind.u64, CK.int IntKind.u64, CK.int IntKind.u64])),
  (33, TI.struct 9 [SV.bool false, SV.bool false, SV.int IntKind.u64 (Int.ofNat 0), SV.int IntKind.u64 (Int.ofNat 0), SV.int IntKind.u64 (Int.ofNat 0), SV.int IntKind.u64 (Int.ofNat 0), SV.int IntKind.u64 (Int.ofNat 0), SV.int IntKind.u64 (Int.ofNat 0), SV.int IntKind.i64 (Int.ofNat 0)] [(0, 1, false), (1, 1, false), (2, 2, true), (4, 4, true), (8, 1, false)] (some [CK.bool, CK.bool, CK.int IntKind.u64, CK.int IntKind.u64, CK.int IntKind.u64, CK.int IntKind.u64, CK.int IntKind.u64, CK.int IntKind.u64, CK.int IntKind.i64])),
  (34, TI.struct 9 [SV.bool false, SV.bool false, SV.int IntKind.u64 (Int.ofNat 0), SV.int IntKind.u64 (Int.ofNat 0), SV.int IntKind.u64 (Int.ofNat 0), SV.int IntKind.u64 (Int.ofNat 0), SV.int IntKind.u64 (Int.ofNat 0), SV.int IntKind.u64 (Int.ofNat 0), SV.int IntKind.i64 (Int.ofNat 0)] [(0, 1, false), (1, 1, false), (2, 2, true), (4, 4, true), (8, 1, false)] (some [CK.bool, CK.bool, CK.int IntKind.u64, CK.int IntKind.u64, CK.int IntKind.u64, CK.int IntKind.u64, CK.int IntKind.u64, CK.int IntKind.u64, CK.int IntKind.i64])),
  (35, TI.scal (SV.int IntKind.i64 (Int.ofNat 0))),
  (42, TI.scal (SV.int IntKind.u64 (Int.ofNat 0))),
  (53, TI.slice 30 ((Ty.int IntKind.u64).pair (Ty.int IntKind.u64)) 16),
  (59, TI.struct 11 [SV.nils, SV.bool false, SV.bool false, SV.int IntKind.u64 (Int.ofNat 0), SV.int IntKind.u64 (Int.ofNat 0), SV.int IntKind.u64 (Int.ofNat 0), SV.int IntKind.u64 (Int.ofNat 0), SV.int IntKind.u64 (Int.ofNat 0), SV.int IntKind.u64 (Int.ofNat 0), SV.int IntKind.i64 (Int.ofNat 0), SV.int IntKind.i64 (Int.ofNat 0)] [(0, 1, false), (1, 9, true), (10, 1, false)] none),
  (60, TI.struct 11 [SV.nils, SV.bool false, SV.bool false, SV.int IntKind.u64 (Int.ofNat 0), SV.int IntKind.u64 (Int.ofNat 0), SV.int IntKind.u64 (Int.ofNat 0), SV.int IntKind.u64 (Int.ofNat 0), SV.int IntKind.u64 (Int.ofNat 0), SV.int IntKind.u64 (Int.ofNat 0), SV.int IntKind.i64 (Int.ofNat 0), SV.int IntKind.i64 (Int.ofNat 0)] [(0, 1, false), (1, 9, true), (10, 1, false)] none),
  (69, TI.map ((Ty.int IntKind.i64).pair ((Ty.int IntKind.i64).pair (Ty.int IntKind.i64))) (Ty.int IntKind.i64)),
  (80, TI.map (Ty.int IntKind.i64) (Ty.bool.pair (Ty.bool.pair (((Ty.int IntKind.u64).pair (Ty.int IntKind.u64)).pair ((((Ty.int IntKind.u64).pair (Ty.int IntKind.u64)).pair ((Ty.int IntKind.u64).pair (Ty.int IntKind.u64))).pair (Ty.int IntKind.i64)))))),
  (99, TI.slice 22 (Ty.int IntKind.u64) 8),
  (102, TI.struct 0 [] [] (some [])),
  (103, TI.map (Ty.int IntKind.i64) Ty.unit),
  (108, TI.array 6 [SV.str ByteArray.empty, SV.str ByteArray.empty, SV.str ByteArray.empty, SV.str ByteArray.empty, SV.str ByteArray.empty, SV.str ByteArray.empty] (some [CK.str, CK.str, CK.str, CK.str, CK.str, CK.str])),
  (115, TI.slice 4 Ty.bool 1),
  (129, TI.slice 34 (Ty.bool.pair (Ty.bool.pair (((Ty.int IntKind.u64).pair (Ty.int IntKind.u64)).pair ((((Ty.int IntKind.u64).pair (Ty.int IntKind.u64)).pair ((Ty.int IntKind.u64).pair (Ty.int IntKind.u64))).pair (Ty.int IntKind.i64))))) 64),
  (134, TI.scal (SV.int IntKind.i64 (Int.ofNat 0))),
  (141, TI.scal (SV.int IntKind.u32 (Int.ofNat 0))),
  (145, TI.scal (SV.int IntKind.u64 (Int.ofNat 0))),
  (151, TI.array 24 [SV.int IntKind.u8 (Int.ofNat 0), SV.int IntKind.u8 (Int.ofNat 0), SV.int IntKind.u8 (Int.ofNat 0), SV.int IntKind.u8 (Int.ofNat 0), SV.int IntKind.u8 (Int.ofNat 0), SV.int IntKind.u8 (Int.ofNat 0), SV.int IntKind.u8 (Int.ofNat 0), SV.int IntKind.u8 (Int.ofNat 0), SV.int IntKind.u8 (Int.ofNat 0), SV.int IntKind.u8 (Int.ofNat 0), SV.int IntKind.u8 (Int.ofNat 0), SV.int IntKind.u8 (Int.ofNat 0), SV.int IntKind.u8 (Int.ofNat 0), SV.int IntKind.u8 (Int.ofNat 0), SV.int IntKind.u8 (Int.ofNat 0), SV.int IntKind.u8 (Int.ofNat 0), SV.int IntKind.u8 (Int.ofNat 0), SV.int IntKind.u8 (Int.ofNat 0), SV.int IntKind.u8 (Int.ofNat 0), SV.int IntKind.u8 (Int.ofNat 0), SV.int IntKind.u8 (Int.ofNat 0), SV.int IntKind.u8 (Int.ofNat 0), SV.int IntKind.u8 (Int.ofNat 0), SV.int IntKind.u8 (Int.ofNat 0)] (some [CK.int IntKind.u8, CK.int IntKind.u8, CK.int IntKind.u8, CK.int IntKind.u8, CK.int IntKind.u8, CK.int IntKind.u8, CK.int IntKind.u8, CK.int IntKind.u8, CK.int IntKind.u8, CK.int IntKind.u8, CK.int IntKind.u8, CK.int IntKind.u8, CK.int IntKind.u8, CK.int IntKind.u8, CK.int IntKind.u8, CK.int IntKind.u8, CK.int IntKind.u8, CK.int IntKind.u8, CK.int IntKind.u8, CK.int IntKind.u8, CK.int IntKind.u8, CK.int IntKind.u8, CK.int IntKind.u8, CK.int IntKind.u8])),
  (160, TI.array 20 [SV.int IntKind.u64 (Int.ofNat 0), SV.int IntKind.u64 (Int.ofNat 0), SV.int IntKind.u64 (Int.ofNat 0), SV.int IntKind.u64 (Int.ofNat 0), SV.int IntKind.u64 (Int.ofNat 0), SV.int IntKind.u64 (Int.ofNat 0), SV.int IntKind.u64 (Int.ofNat 0), SV.int IntKind.u64 (Int.ofNat 0), SV.int IntKind.u64 (Int.ofNat 0), SV.int IntKind.u64 (Int.ofNat 0), SV.int IntKind.u64 (Int.ofNat 0), SV.int IntKind.u64 (Int.ofNat 0), SV.int IntKind.u64 (Int.ofNat 0), SV.int IntKind.u64 (Int.ofNat 0), SV.int IntKind.u64 (Int.ofNat 0), SV.int IntKind.u64 (Int.ofNat 0), SV.int IntKind.u64 (Int.ofNat 0), SV.int IntKind.u64 (Int.ofNat 0), SV.int IntKind.u64 (Int.ofNat 0), SV.int IntKind.u64 (Int.ofNat 0)] (some [CK.int IntKind.u64, CK.int IntKind.u64, CK.int IntKind.u64, CK.int IntKind.u64, CK.int IntKind.u64, CK.int IntKind.u64, CK.int IntKind.u64, CK.int IntKind.u64, CK.int IntKind.u64, CK.int IntKind.u64, CK.int IntKind.u64, CK.int IntKind.u64, CK.int IntKind.u64, CK.int IntKind.u64, CK.int IntKind.u64, CK.int IntKind.u64, CK.int IntKind.u64, CK.int IntKind.u64, CK.int IntKind.u64, CK.int IntKind.u64])),
  (161, TI.array 65 [SV.int IntKind.u8 (Int.ofNat 0), SV.int IntKind.u8 (Int.ofNat 0), SV.int IntKind.u8 (Int.ofNat 0), SV.int IntKind.u8 (Int.ofNat 0), SV.int IntKind.u8 (Int.ofNat 0), SV.int IntKind.u8 (Int.ofNat 0), SV.int IntKind.u8 (Int.ofNat 0), SV.int IntKind.u8 (Int.ofNat 0), SV.int IntKind.u8 (Int.ofNat 0), SV.int IntKind.u8 (Int.ofNat 0), SV.int IntKind.u8 (Int.ofNat 0), SV.int IntKind.u8 (Int.ofNat 0), SV.int IntKind.u8 (Int.ofNat 0), SV.int IntKind.u8 (Int.ofNat 0), SV.int IntKind.u8 (Int.ofNat 0), SV.int IntKind.u8 (Int.ofNat 0), SV.int IntKind.u8 (Int.ofNat 0), SV.int IntKind.u8 (Int.ofNat 0), SV.int IntKind.u8 (Int.ofNat 0), SV.int IntKind.u8 (Int.ofNat 0), SV.int IntKind.u8 (Int.ofNat 0), SV.int IntKind.u8 (Int.ofNat 0), SV.int IntKind.u8 (Int.ofNat 0), SV.int IntKind.u8 (Int.ofNat 0), SV.int IntKind.u8 (Int.ofNat 0), SV.int IntKind.u8 (Int.ofNat 0), SV.int IntKind.u8 (Int.ofNat 0), SV.int IntKind.u8 (Int.ofNat 0), SV.int IntKind.u8 (Int.ofNat 0), SV.int IntKind.u8 (Int.ofNat 0), SV.int IntKind.u8 (Int.ofNat 0), SV.int IntKind.u8 (Int.ofNat 0), SV.int IntKind.u8 (Int.ofNat 0), SV.int IntKind.u8 (Int.ofNat 0), SV.int IntKind.u8 (Int.ofNat 0), SV.int IntKind.u8 (Int.ofNat 0), SV.int IntKind.u8 (Int.ofNat 0), SV.int IntKind.u8 (Int.ofNat 0), SV.int IntKind.u8 (Int.ofNat 0), SV.int IntKind.u8 (Int.ofNat 0), SV.int IntKind.u8 (Int.ofNat 0), SV.int IntKind.u8 (Int.ofNat 0), SV.int IntKind.u8 (Int.ofNat 0), SV.int IntKind.u8 (Int.ofNat 0), SV.int IntKind.u8 (Int.ofNat 0), SV.int IntKind.u8 (Int.ofNat 0), SV.int IntKind.u8 (Int.ofNat 0), SV.int IntKind.u8 (Int.ofNat 0), SV.int IntKind.u8 (Int.ofNat 0), SV.int IntKind.u8 (Int.ofNat 0), SV.int IntKind.u8 (Int.ofNat 0), SV.int IntKind.u8 (Int.ofNat 0), SV.int IntKind.u8 (Int.ofNat 0), SV.int IntKind.u8 (Int.ofNat 0), SV.int IntKind.u8 (Int.ofNat 0), SV.int IntKind.u8 (Int.ofNat 0), SV.int IntKind.u8 (Int.ofNat 0), SV.int IntKind.u8 (Int.ofNat 0), SV.int IntKind.u8 (Int.ofNat 0), SV.int IntKind.u8 (Int.ofNat 0), SV.int IntKind.u8 (Int.ofNat 0), SV.int IntKind.u8 (Int.ofNat 0), SV.int IntKind.u8 (Int.ofNat 0), SV.int IntKind.u8 (Int.ofNat 0), SV.int IntKind.u8 (Int.ofNat 0)] (some [CK.int IntKind.u8, CK.int IntKind.u8, CK.int IntKind.u8, CK.int IntKind.u8, CK.int IntKind.u8, CK.int IntKind.u8, CK.int IntKind.u8, CK.int IntKind.u8, CK.int IntKind.u8, CK.int IntKind.u8, CK.int IntKind.u8, CK.int IntKind.u8, CK.int IntKind.u8, CK.int IntKind.u8, CK.int IntKind.u8, CK.int IntKind.u8, CK.int IntKind.u8, CK.int IntKind.u8, CK.int IntKind.u8, CK.int IntKind.u8, CK.int IntKind.u8, CK.int IntKind.u8, CK.int IntKind.u8, CK.int IntKind.u8, CK.int IntKind.u8, CK.int IntKind.u8, CK.int IntKind.u8, CK.int IntKind.u8, CK.int IntKind.u8, CK.int IntKind.u8, CK.int IntKind.u8, CK.int IntKind.u8, CK.int IntKind.u8, CK.int IntKind.u8, CK.int IntKind.u8, CK.int IntKind.u8, CK.int IntKind.u8, CK.int IntKind.u8, CK.int IntKind.u8, CK.int IntKind.u8, CK.int IntKind.u8, CK.int IntKind.u8, CK.int IntKind.u8, CK.int IntKind.u8, CK.int IntKind.u8, CK.int IntKind.u8, CK.int IntKind.u8, CK.int IntKind.u8, CK.int IntKind.u8, CK.int IntKind.u8, CK.int IntKind.u8, CK.int IntKind.u8, CK.int IntKind.u8, CK.int IntKind.u8, CK.int IntKind.u8, CK.int IntKind.u8, CK.int IntKind.u8, CK.int IntKind.u8, CK.int IntKind.u8, CK.int IntKind.u8, CK.int IntKind.u8, CK.int IntKind.u8, CK.int IntKind.u8, CK.int IntKind.u8, CK.int IntKind.u8])),
  (162, TI.array 32 [SV.int IntKind.u8 (Int.ofNat 0), SV.int IntKind.u8 (Int.ofNat 0), SV.int IntKind.u8 (Int.ofNat 0), SV.int IntKind.u8 (Int.ofNat 0), SV.int IntKind.u8 (Int.ofNat 0), SV.int IntKind.u8 (Int.ofNat 0), SV.int IntKind.u8 (Int.ofNat 0), SV.int IntKind.u8 (Int.ofNat 0), SV.int IntKind.u8 (Int.ofNat 0), SV.int IntKind.u8 (Int.ofNat 0), SV.int IntKind.u8 (Int.ofNat 0), SV.int IntKind.u8 (Int.ofNat 0), SV.int IntKind.u8 (Int.ofNat 0), SV.int IntKind.u8 (Int.ofNat 0), SV.int IntKind.u8 (Int.ofNat 0), SV.int IntKind.u8 (Int.ofNat 0), SV.int IntKind.u8 (Int.ofNat 0), SV.int IntKind.u8 (Int.ofNat 0), SV.int IntKind.u8 (Int.ofNat 0), SV.int IntKind.u8 (Int.ofNat 0), SV.int IntKind.u8 (Int.ofNat 0), SV.int IntKind.u8 (Int.ofNat 0), SV.int IntKind.u8 (Int.ofNat 0), SV.int IntKind.u8 (Int.ofNat 0), SV.int IntKind.u8 (Int.ofNat 0), SV.int IntKind.u8 (Int.ofNat 0), SV.int IntKind.u8 (Int.ofNat 0), SV.int IntKind.u8 (Int.ofNat 0), SV.int IntKind.u8 (Int.ofNat 0), SV.int IntKind.u8 (Int.ofNat 0), SV.int IntKind.u8 (Int.ofNat 0), SV.int IntKind.u8 (Int.ofNat 0)] (some [CK.int IntKind.u8, CK.int IntKind.u8, CK.int IntKind.u8, CK.int IntKind.u8, CK.int IntKind.u8, CK.int IntKind.u8, CK.int IntKind.u8, CK.int IntKind.u8, CK.int IntKind.u8, CK.int IntKind.u8, CK.int IntKind.u8, CK.int IntKind.u8, CK.int IntKind.u8, CK.int IntKind.u8, CK.int IntKind.u8, CK.int IntKind.u8, CK.int IntKind.u8, CK.int IntKind.u8, CK.int IntKind.u8, CK.int IntKind.u8, CK.int IntKind.u8, CK.int IntKind.u8, CK.int IntKind.u8, CK.int IntKind.u8, CK.int IntKind.u8, CK.int IntKind.u8, CK.int IntKind.u8, CK.int IntKind.u8, CK.int IntKind.u8, CK.int IntKind.u8, CK.int IntKind.u8, CK.int IntKind.u8])),
  (163, TI.array 64 [SV.int IntKind.u8 (Int.ofNat 0), SV.int IntKind.u8 (Int.ofNat 0), SV.int IntKind.u8 (Int.ofNat 0), SV.int IntKind.u8 (Int.ofNat 0), SV.int IntKind.u8 (Int.ofNat 0), SV.int IntKind.u8 (Int.ofNat 0), SV.int IntKind.u8 (Int.ofNat 0), SV.int IntKind.u8 (Int.ofNat 0), SV.int IntKind.u8 (Int.ofNat 0), SV.int IntKind.u8 (Int.ofNat 0), SV.int IntKind.u8 (Int.ofNat 0), SV.int IntKind.u8 (Int.ofNat 0), SV.int IntKind.u8 (Int.ofNat 0), SV.int IntKind.u8 (Int.ofNat 0), SV.int IntKind.u8 (Int.ofNat 0), SV.int IntKind.u8 (Int.ofNat 0), SV.int IntKind.u8 (Int.ofNat 0), SV.int IntKind.u8 (Int.ofNat 0), SV.int IntKind.u8 (Int.ofNat 0), SV.int IntKind.u8 (Int.ofNat 0), SV.int IntKind.u8 (Int.ofNat 0), SV.int IntKind.u8 (Int.ofNat 0), SV.int IntKind.u8 (Int.ofNat 0), SV.int IntKind.u8 (Int.ofNat 0), SV.int IntKind.u8 (Int.ofNat 0), SV.int IntKind.u8 (Int.ofNat 0), SV.int IntKind.u8 (Int.ofNat 0), SV.int IntKind.u8 (Int.ofNat 0), SV.int IntKind.u8 (Int.ofNat 0), SV.int IntKind.u8 (Int.ofNat 0), SV.int IntKind.u8 (Int.ofNat 0), SV.int IntKind.u8 (Int.ofNat 0), SV.int IntKind.u8 (Int.ofNat 0), SV.int IntKind.u8 (Int.ofNat 0), SV.int IntKind.u8 (Int.ofNat 0), SV.int IntKind.u8 (Int.ofNat 0), SV.int IntKind.u8 (Int.ofNat 0), SV.int IntKind.u8 (Int.ofNat 0), SV.int IntKind.u8 (Int.ofNat 0), SV.int IntKind.u8 (Int.ofNat 0), SV.int IntKind.u8 (Int.ofNat 0), SV.int IntKind.u8 (Int.ofNat 0), SV.int IntKind.u8 (Int.ofNat 0), SV.int IntKind.u8 (Int.ofNat 0), SV.int IntKind.u8 (Int.ofNat 0), SV.int IntKind.u8 (Int.ofNat 0), SV.int IntKind.u8 (Int.ofNat 0), SV.int IntKind.u8 (Int.ofNat 0), SV.int IntKind.u8 (Int.ofNat 0), SV.int IntKind.u8 (Int.ofNat 0), SV.int IntKind.u8 (Int.ofNat 0), SV.int IntKind.u8 (Int.ofNat 0), SV.int IntKind.u8 (Int.ofNat 0), SV.int IntKind.u8 (Int.ofNat 0), SV.int IntKind.u8 (Int.ofNat 0), SV.int IntKind.u8 (Int.ofNat 0), SV.int IntKind.u8 (Int.ofNat 0), SV.int IntKind.u8 (Int.ofNat 0), SV.int IntKind.u8 (Int.ofNat 0), SV.int IntKind.u8 (Int.ofNat 0), SV.int IntKind.u8 (Int.ofNat 0), SV.int IntKind.u8 (Int.ofNat 0), SV.int IntKind.u8 (Int.ofNat 0), SV.int IntKind.u8 (Int.ofNat 0)] (some [CK.int IntKind.u8, CK.int IntKind.u8, CK.int IntKind.u8, CK.int IntKind.u8, CK.int IntKind.u8, CK.int IntKind.u8, CK.int IntKind.u8, CK.int IntKind.u8, CK.int IntKind.u8, CK.int IntKind.u8, CK.int IntKind.u8, CK.int IntKind.u8, CK.int IntKind.u8, CK.int IntKind.u8, CK.int IntKind.u8, CK.int IntKind.u8, CK.int IntKind.u8, CK.int IntKind.u8, CK.int IntKind.u8, CK.int IntKind.u8, CK.int IntKind.u8, CK.int IntKind.u8, CK.int IntKind.u8, CK.int IntKind.u8, CK.int IntKind.u8, CK.int IntKind.u8, CK.int IntKind.u8, CK.int IntKind.u8, CK.int IntKind.u8, CK.int IntKind.u8, CK.int IntKind.u8, CK.int IntKind.u8, CK.int IntKind.u8, CK.int IntKind.u8, CK.int IntKind.u8, CK.int IntKind.u8, CK.int IntKind.u8, CK.int IntKind.u8, CK.int IntKind.u8, CK.int IntKind.u8, CK.int IntKind.u8, CK.int IntKind.u8, CK.int IntKind.u8, CK.int IntKind.u8, CK.int IntKind.u8, CK.int IntKind.u8, CK.int IntKind.u8, CK.int IntKind.u8, CK.int IntKind.u8, CK.int IntKind.u8, CK.int IntKind.u8, CK.int IntKind.u8, CK.int IntKind.u8, CK.int IntKind.u8, CK.int IntKind.u8, CK.int IntKind.u8, CK.int IntKind.u8, CK.int IntKind.u8, CK.int IntKind.u8, CK.int IntKind.u8, CK.int IntKind.u8, CK.int IntKind.u8, CK.int IntKind.u8, CK.int IntKind.u8]))]
def tbTypes : List TypeId := [3, 4, 44, 28, 84, 9, 22, 2, 5, 13, 21, 23, 24, 26, 27, 29, 30, 31, 32, 33, 34, 35, 42, 53, 59, 60, 69, 80, 99, 102, 103, 108, 115, 129, 134, 141, 145, 151, 160, 161, 162, 163]

theorem tbOk : TabOk Tryd.prog tb := mkTab_ok (Ts := tbTypes) (by kernel_rfl)
theorem mixed : Tryd.prog.follows .mixedOrders = true := Tryd.checked.mixed

@[reducible] def N19 : FuncId := 46
noncomputable abbrev F19 : Func := Tryd.f46
theorem H19 : Tryd.prog.funcs[N19]? = some F19 := Tryd.func46
@[reducible] def N22 : FuncId := 53
noncomputable abbrev F22 : Func := Tryd.f53
theorem H22 : Tryd.prog.funcs[N22]? = some F22 := Tryd.func53
@[reducible] def N23 : FuncId := 34
noncomputable abbrev F23 : Func := Tryd.f34
theorem H23 : Tryd.prog.funcs[N23]? = some F23 := Tryd.func34
@[reducible] def N26 : FuncId := 14
noncomputable abbrev F26 : Func := Tryd.f14
theorem H26 : Tryd.prog.funcs[N26]? = some F26 := Tryd.func14
@[reducible] def N27 : FuncId := 56
noncomputable abbrev F27 : Func := Tryd.f56
theorem H27 : Tryd.prog.funcs[N27]? = some F27 := Tryd.func56
@[reducible] def N35 : FuncId := 39
noncomputable abbrev F35 : Func := Tryd.f39
theorem H35 : Tryd.prog.funcs[N35]? = some F35 := Tryd.func39
@[reducible] def N42 : FuncId := 20
noncomputable abbrev F42 : Func := Tryd.f20
theorem H42 : Tryd.prog.funcs[N42]? = some F42 := Tryd.func20
@[reducible] def N44 : FuncId := 76
noncomputable abbrev F44 : Func := Tryd.f76
theorem H44 : Tryd.prog.funcs[N44]? = some F44 := Tryd.func76
@[reducible] def N45 : FuncId := 77
noncomputable abbrev F45 : Func := Tryd.f77
theorem H45 : Tryd.prog.funcs[N45]? = some F45 := Tryd.func77
@[reducible] def N46 : FuncId := 69
noncomputable abbrev F46 : Func := Tryd.f69
theorem H46 : Tryd.prog.funcs[N46]? = some F46 := Tryd.func69
@[reducible] def N47 : FuncId := 47
noncomputable abbrev F47 : Func := Tryd.f47
theorem H47 : Tryd.prog.funcs[N47]? = some F47 := Tryd.func47
@[reducible] def N49 : FuncId := 12
noncomputable abbrev F49 : Func := Tryd.f12
theorem H49 : Tryd.prog.funcs[N49]? = some F49 := Tryd.func12
@[reducible] def N50 : FuncId := 58
noncomputable abbrev F50 : Func := Tryd.f58
theorem H50 : Tryd.prog.funcs[N50]? = some F50 := Tryd.func58
@[reducible] def N51 : FuncId := 79
noncomputable abbrev F51 : Func := Tryd.f79
theorem H51 : Tryd.prog.funcs[N51]? = some F51 := Tryd.func79
@[reducible] def N52 : FuncId := 60
noncomputable abbrev F52 : Func := Tryd.f60
theorem H52 : Tryd.prog.funcs[N52]? = some F52 := Tryd.func60
@[reducible] def N53 : FuncId := 70
noncomputable abbrev F53 : Func := Tryd.f70
theorem H53 : Tryd.prog.funcs[N53]? = some F53 := Tryd.func70
@[reducible] def N54 : FuncId := 57
noncomputable abbrev F54 : Func := Tryd.f57
theorem H54 : Tryd.prog.funcs[N54]? = some F54 := Tryd.func57
@[reducible] def N55 : FuncId := 59
noncomputable abbrev F55 : Func := Tryd.f59
theorem H55 : Tryd.prog.funcs[N55]? = some F55 := Tryd.func59
@[reducible] def N59 : FuncId := 80
noncomputable abbrev F59 : Func := Tryd.f80
theorem H59 : Tryd.prog.funcs[N59]? = some F59 := Tryd.func80
@[reducible] def N65 : FuncId := 68
noncomputable abbrev F65 : Func := Tryd.f68
theorem H65 : Tryd.prog.funcs[N65]? = some F65 := Tryd.func68
@[reducible] def N67 : FuncId := 32
noncomputable abbrev F67 : Func := Tryd.f32
theorem H67 : Tryd.prog.funcs[N67]? = some F67 := Tryd.func32
@[reducible] def N73 : FuncId := 43
noncomputable abbrev F73 : Func := Tryd.f43
theorem H73 : Tryd.prog.funcs[N73]? = some F73 := Tryd.func43
@[reducible] def N74 : FuncId := 67
noncomputable abbrev F74 : Func := Tryd.f67
theorem H74 : Tryd.prog.funcs[N74]? = some F74 := Tryd.func67
@[reducible] def N80 : FuncId := 40
noncomputable abbrev F80 : Func := Tryd.f40
theorem H80 : Tryd.prog.funcs[N80]? = some F80 := Tryd.func40
@[reducible] def N81 : FuncId := 41
noncomputable abbrev F81 : Func := Tryd.f41
theorem H81 : Tryd.prog.funcs[N81]? = some F81 := Tryd.func41
@[reducible] def N82 : FuncId := 42
noncomputable abbrev F82 : Func := Tryd.f42
theorem H82 : Tryd.prog.funcs[N82]? = some F82 := Tryd.func42
@[reducible] def N84 : FuncId := 98
noncomputable abbrev F84 : Func := Tryd.f98
theorem H84 : Tryd.prog.funcs[N84]? = some F84 := Tryd.func98
@[reducible] def N85 : FuncId := 90
noncomputable abbrev F85 : Func := Tryd.f90
theorem H85 : Tryd.prog.funcs[N85]? = some F85 := Tryd.func90
@[reducible] def N86 : FuncId := 91
noncomputable abbrev F86 : Func := Tryd.f91
theorem H86 : Tryd.prog.funcs[N86]? = some F86 := Tryd.func91
@[reducible] def N87 : FuncId := 92
noncomputable abbrev F87 : Func := Tryd.f92
theorem H87 : Tryd.prog.funcs[N87]? = some F87 := Tryd.func92
@[reducible] def N88 : FuncId := 30
noncomputable abbrev F88 : Func := Tryd.f30
theorem H88 : Tryd.prog.funcs[N88]? = some F88 := Tryd.func30
@[reducible] def N89 : FuncId := 81
noncomputable abbrev F89 : Func := Tryd.f81
theorem H89 : Tryd.prog.funcs[N89]? = some F89 := Tryd.func81
@[reducible] def N90 : FuncId := 99
noncomputable abbrev F90 : Func := Tryd.f99
theorem H90 : Tryd.prog.funcs[N90]? = some F90 := Tryd.func99
@[reducible] def N91 : FuncId := 100
noncomputable abbrev F91 : Func := Tryd.f100
theorem H91 : Tryd.prog.funcs[N91]? = some F91 := Tryd.func100
@[reducible] def N92 : FuncId := 93
noncomputable abbrev F92 : Func := Tryd.f93
theorem H92 : Tryd.prog.funcs[N92]? = some F92 := Tryd.func93
@[reducible] def N93 : FuncId := 82
noncomputable abbrev F93 : Func := Tryd.f82
theorem H93 : Tryd.prog.funcs[N93]? = some F93 := Tryd.func82
@[reducible] def N94 : FuncId := 83
noncomputable abbrev F94 : Func := Tryd.f83
theorem H94 : Tryd.prog.funcs[N94]? = some F94 := Tryd.func83
@[reducible] def N97 : FuncId := 88
noncomputable abbrev F97 : Func := Tryd.f88
theorem H97 : Tryd.prog.funcs[N97]? = some F97 := Tryd.func88
@[reducible] def N98 : FuncId := 89
noncomputable abbrev F98 : Func := Tryd.f89
theorem H98 : Tryd.prog.funcs[N98]? = some F98 := Tryd.func89
@[reducible] def N99 : FuncId := 110
noncomputable abbrev F99 : Func := Tryd.f110
theorem H99 : Tryd.prog.funcs[N99]? = some F99 := Tryd.func110
@[reducible] def N101 : FuncId := 55
noncomputable abbrev F101 : Func := Tryd.f55
theorem H101 : Tryd.prog.funcs[N101]? = some F101 := Tryd.func55
@[reducible] def N103 : FuncId := 117
noncomputable abbrev F103 : Func := Tryd.f117
theorem H103 : Tryd.prog.funcs[N103]? = some F103 := Tryd.func117
@[reducible] def N104 : FuncId := 54
noncomputable abbrev F104 : Func := Tryd.f54
theorem H104 : Tryd.prog.funcs[N104]? = some F104 := Tryd.func54
@[reducible] def N105 : FuncId := 101
noncomputable abbrev F105 : Func := Tryd.f101
theorem H105 : Tryd.prog.funcs[N105]? = some F105 := Tryd.func101
@[reducible] def N106 : FuncId := 114
noncomputable abbrev F106 : Func := Tryd.f114
theorem H106 : Tryd.prog.funcs[N106]? = some F106 := Tryd.func114
@[reducible] def N107 : FuncId := 102
noncomputable abbrev F107 : Func := Tryd.f102
theorem H107 : Tryd.prog.funcs[N107]? = some F107 := Tryd.func102
@[reducible] def N110 : FuncId := 104
noncomputable abbrev F110 : Func := Tryd.f104
theorem H110 : Tryd.prog.funcs[N110]? = some F110 := Tryd.func104
@[reducible] def N111 : FuncId := 105
noncomputable abbrev F111 : Func := Tryd.f105
theorem H111 : Tryd.prog.funcs[N111]? = some F111 := Tryd.func105
@[reducible] def N112 : FuncId := 106
noncomputable abbrev F112 : Func := Tryd.f106
theorem H112 : Tryd.prog.funcs[N112]? = some F112 := Tryd.func106
@[reducible] def N113 : FuncId := 107
noncomputable abbrev F113 : Func := Tryd.f107
theorem H113 : Tryd.prog.funcs[N113]? = some F113 := Tryd.func107
@[reducible] def N114 : FuncId := 108
noncomputable abbrev F114 : Func := Tryd.f108
theorem H114 : Tryd.prog.funcs[N114]? = some F114 := Tryd.func108
@[reducible] def N115 : FuncId := 109
noncomputable abbrev F115 : Func := Tryd.f109
theorem H115 : Tryd.prog.funcs[N115]? = some F115 := Tryd.func109
@[reducible] def N116 : FuncId := 111
noncomputable abbrev F116 : Func := Tryd.f111
theorem H116 : Tryd.prog.funcs[N116]? = some F116 := Tryd.func111
@[reducible] def N117 : FuncId := 112
noncomputable abbrev F117 : Func := Tryd.f112
theorem H117 : Tryd.prog.funcs[N117]? = some F117 := Tryd.func112
@[reducible] def N118 : FuncId := 113
noncomputable abbrev F118 : Func := Tryd.f113
theorem H118 : Tryd.prog.funcs[N118]? = some F118 := Tryd.func113
@[reducible] def N119 : FuncId := 66
noncomputable abbrev F119 : Func := Tryd.f66
theorem H119 : Tryd.prog.funcs[N119]? = some F119 := Tryd.func66
@[reducible] def N120 : FuncId := 124
noncomputable abbrev F120 : Func := Tryd.f124
theorem H120 : Tryd.prog.funcs[N120]? = some F120 := Tryd.func124
@[reducible] def N121 : FuncId := 78
noncomputable abbrev F121 : Func := Tryd.f78
theorem H121 : Tryd.prog.funcs[N121]? = some F121 := Tryd.func78
@[reducible] def N122 : FuncId := 118
noncomputable abbrev F122 : Func := Tryd.f118
theorem H122 : Tryd.prog.funcs[N122]? = some F122 := Tryd.func118
@[reducible] def N124 : FuncId := 119
noncomputable abbrev F124 : Func := Tryd.f119
theorem H124 : Tryd.prog.funcs[N124]? = some F124 := Tryd.func119
@[reducible] def N125 : FuncId := 120
noncomputable abbrev F125 : Func := Tryd.f120
theorem H125 : Tryd.prog.funcs[N125]? = some F125 := Tryd.func120
@[reducible] def N126 : FuncId := 121
noncomputable abbrev F126 : Func := Tryd.f121
theorem H126 : Tryd.prog.funcs[N126]? = some F126 := Tryd.func121
@[reducible] def N127 : FuncId := 122
noncomputable abbrev F127 : Func := Tryd.f122
theorem H127 : Tryd.prog.funcs[N127]? = some F127 := Tryd.func122
@[reducible] def N128 : FuncId := 123
noncomputable abbrev F128 : Func := Tryd.f123
theorem H128 : Tryd.prog.funcs[N128]? = some F128 := Tryd.func123
@[reducible] def N129 : FuncId := 129
noncomputable abbrev F129 : Func := Tryd.f129
theorem H129 : Tryd.prog.funcs[N129]? = some F129 := Tryd.func129
@[reducible] def N311 : FuncId := 49
noncomputable abbrev F311 : Func := Tryd.f49
theorem H311 : Tryd.prog.funcs[N311]? = some F311 := Tryd.func49
@[reducible] def N318 : FuncId := 28
noncomputable abbrev F318 : Func := Tryd.f28
theorem H318 : Tryd.prog.funcs[N318]? = some F318 := Tryd.func28
@[reducible] def N320 : FuncId := 11
noncomputable abbrev F320 : Func := Tryd.f11
theorem H320 : Tryd.prog.funcs[N320]? = some F320 := Tryd.func11
@[reducible] def N327 : FuncId := 52
noncomputable abbrev F327 : Func := Tryd.f52
theorem H327 : Tryd.prog.funcs[N327]? = some F327 := Tryd.func52
@[reducible] def N328 : FuncId := 73
noncomputable abbrev F328 : Func := Tryd.f73
theorem H328 : Tryd.prog.funcs[N328]? = some F328 := Tryd.func73
@[reducible] def N329 : FuncId := 74
noncomputable abbrev F329 : Func := Tryd.f74
theorem H329 : Tryd.prog.funcs[N329]? = some F329 := Tryd.func74
@[reducible] def N330 : FuncId := 38
noncomputable abbrev F330 : Func := Tryd.f38
theorem H330 : Tryd.prog.funcs[N330]? = some F330 := Tryd.func38
@[reducible] def N335 : FuncId := 37
noncomputable abbrev F335 : Func := Tryd.f37
theorem H335 : Tryd.prog.funcs[N335]? = some F335 := Tryd.func37
@[reducible] def N337 : FuncId := 62
noncomputable abbrev F337 : Func := Tryd.f62
theorem H337 : Tryd.prog.funcs[N337]? = some F337 := Tryd.func62
@[reducible] def N338 : FuncId := 35
noncomputable abbrev F338 : Func := Tryd.f35
theorem H338 : Tryd.prog.funcs[N338]? = some F338 := Tryd.func35
@[reducible] def N341 : FuncId := 26
noncomputable abbrev F341 : Func := Tryd.f26
theorem H341 : Tryd.prog.funcs[N341]? = some F341 := Tryd.func26
@[reducible] def N345 : FuncId := 36
noncomputable abbrev F345 : Func := Tryd.f36
theorem H345 : Tryd.prog.funcs[N345]? = some F345 := Tryd.func36
@[reducible] def N346 : FuncId := 13
noncomputable abbrev F346 : Func := Tryd.f13
theorem H346 : Tryd.prog.funcs[N346]? = some F346 := Tryd.func13
@[reducible] def N347 : FuncId := 10
noncomputable abbrev F347 : Func := Tryd.f10
theorem H347 : Tryd.prog.funcs[N347]? = some F347 := Tryd.func10
@[reducible] def N348 : FuncId := 51
noncomputable abbrev F348 : Func := Tryd.f51
theorem H348 : Tryd.prog.funcs[N348]? = some F348 := Tryd.func51
@[reducible] def N351 : FuncId := 22
noncomputable abbrev F351 : Func := Tryd.f22
theorem H351 : Tryd.prog.funcs[N351]? = some F351 := Tryd.func22
@[reducible] def N352 : FuncId := 27
noncomputable abbrev F352 : Func := Tryd.f27
theorem H352 : Tryd.prog.funcs[N352]? = some F352 := Tryd.func27
@[reducible] def N353 : FuncId := 29
noncomputable abbrev F353 : Func := Tryd.f29
theorem H353 : Tryd.prog.funcs[N353]? = some F353 := Tryd.func29
@[reducible] def N354 : FuncId := 25
noncomputable abbrev F354 : Func := Tryd.f25
theorem H354 : Tryd.prog.funcs[N354]? = some F354 := Tryd.func25
@[reducible] def N360 : FuncId := 48
noncomputable abbrev F360 : Func := Tryd.f48
theorem H360 : Tryd.prog.funcs[N360]? = some F360 := Tryd.func48
@[reducible] def N362 : FuncId := 97
noncomputable abbrev F362 : Func := Tryd.f97
theorem H362 : Tryd.prog.funcs[N362]? = some F362 := Tryd.func97
@[reducible] def N365 : FuncId := 75
noncomputable abbrev F365 : Func := Tryd.f75
theorem H365 : Tryd.prog.funcs[N365]? = some F365 := Tryd.func75
@[reducible] def N366 : FuncId := 23
noncomputable abbrev F366 : Func := Tryd.f23
theorem H366 : Tryd.prog.funcs[N366]? = some F366 := Tryd.func23
@[reducible] def N370 : FuncId := 63
noncomputable abbrev F370 : Func := Tryd.f63
theorem H370 : Tryd.prog.funcs[N370]? = some F370 := Tryd.func63
@[reducible] def N372 : FuncId := 65
noncomputable abbrev F372 : Func := Tryd.f65
theorem H372 : Tryd.prog.funcs[N372]? = some F372 := Tryd.func65
@[reducible] def N373 : FuncId := 64
noncomputable abbrev F373 : Func := Tryd.f64
theorem H373 : Tryd.prog.funcs[N373]? = some F373 := Tryd.func64
@[reducible] def N374 : FuncId := 61
noncomputable abbrev F374 : Func := Tryd.f61
theorem H374 : Tryd.prog.funcs[N374]? = some F374 := Tryd.func61
@[reducible] def N375 : FuncId := 50
noncomputable abbrev F375 : Func := Tryd.f50
theorem H375 : Tryd.prog.funcs[N375]? = some F375 := Tryd.func50
@[reducible] def N376 : FuncId := 84
noncomputable abbrev F376 : Func := Tryd.f84
theorem H376 : Tryd.prog.funcs[N376]? = some F376 := Tryd.func84
@[reducible] def N377 : FuncId := 31
noncomputable abbrev F377 : Func := Tryd.f31
theorem H377 : Tryd.prog.funcs[N377]? = some F377 := Tryd.func31
@[reducible] def N385 : FuncId := 24
noncomputable abbrev F385 : Func := Tryd.f24
theorem H385 : Tryd.prog.funcs[N385]? = some F385 := Tryd.func24
@[reducible] def N399 : FuncId := 96
noncomputable abbrev F399 : Func := Tryd.f96
theorem H399 : Tryd.prog.funcs[N399]? = some F399 := Tryd.func96
@[reducible] def N403 : FuncId := 85
noncomputable abbrev F403 : Func := Tryd.f85
theorem H403 : Tryd.prog.funcs[N403]? = some F403 := Tryd.func85
@[reducible] def N404 : FuncId := 86
noncomputable abbrev F404 : Func := Tryd.f86
theorem H404 : Tryd.prog.funcs[N404]? = some F404 := Tryd.func86
@[reducible] def N405 : FuncId := 87
noncomputable abbrev F405 : Func := Tryd.f87
theorem H405 : Tryd.prog.funcs[N405]? = some F405 := Tryd.func87
@[reducible] def N416 : FuncId := 19
noncomputable abbrev F416 : Func := Tryd.f19
theorem H416 : Tryd.prog.funcs[N416]? = some F416 := Tryd.func19
@[reducible] def N424 : FuncId := 103
noncomputable abbrev F424 : Func := Tryd.f103
theorem H424 : Tryd.prog.funcs[N424]? = some F424 := Tryd.func103
@[reducible] def N517 : FuncId := 21
noncomputable abbrev F517 : Func := Tryd.f21
theorem H517 : Tryd.prog.funcs[N517]? = some F517 := Tryd.func21
@[reducible] def N532 : FuncId := 44
noncomputable abbrev F532 : Func := Tryd.f44
theorem H532 : Tryd.prog.funcs[N532]? = some F532 := Tryd.func44
@[reducible] def N533 : FuncId := 45
noncomputable abbrev F533 : Func := Tryd.f45
theorem H533 : Tryd.prog.funcs[N533]? = some F533 := Tryd.func45
@[reducible] def N540 : FuncId := 71
noncomputable abbrev F540 : Func := Tryd.f71
theorem H540 : Tryd.prog.funcs[N540]? = some F540 := Tryd.func71
@[reducible] def N541 : FuncId := 72
noncomputable abbrev F541 : Func := Tryd.f72
theorem H541 : Tryd.prog.funcs[N541]? = some F541 := Tryd.func72
@[reducible] def N546 : FuncId := 94
noncomputable abbrev F546 : Func := Tryd.f94
theorem H546 : Tryd.prog.funcs[N546]? = some F546 := Tryd.func94
@[reducible] def N547 : FuncId := 95
noncomputable abbrev F547 : Func := Tryd.f95
theorem H547 : Tryd.prog.funcs[N547]? = some F547 := Tryd.func95
@[reducible] def N559 : FuncId := 115
noncomputable abbrev F559 : Func := Tryd.f115
theorem H559 : Tryd.prog.funcs[N559]? = some F559 := Tryd.func115
@[reducible] def N560 : FuncId := 116
noncomputable abbrev F560 : Func := Tryd.f116
theorem H560 : Tryd.prog.funcs[N560]? = some F560 := Tryd.func116
@[reducible] def N567 : FuncId := 125
noncomputable abbrev F567 : Func := Tryd.f125
theorem H567 : Tryd.prog.funcs[N567]? = some F567 := Tryd.func125
@[reducible] def N568 : FuncId := 126
noncomputable abbrev F568 : Func := Tryd.f126
theorem H568 : Tryd.prog.funcs[N568]? = some F568 := Tryd.func126
@[reducible] def N569 : FuncId := 127
noncomputable abbrev F569 : Func := Tryd.f127
theorem H569 : Tryd.prog.funcs[N569]? = some F569 := Tryd.func127
@[reducible] def N570 : FuncId := 128
noncomputable abbrev F570 : Func := Tryd.f128
theorem H570 : Tryd.prog.funcs[N570]? = some F570 := Tryd.func128
@[reducible] def N572 : FuncId := 130
noncomputable abbrev F572 : Func := Tryd.f130
theorem H572 : Tryd.prog.funcs[N572]? = some F572 := Tryd.func130
@[reducible] def N573 : FuncId := 131
noncomputable abbrev F573 : Func := Tryd.f131
theorem H573 : Tryd.prog.funcs[N573]? = some F573 := Tryd.func131
@[reducible] def N574 : FuncId := 132
noncomputable abbrev F574 : Func := Tryd.f132
theorem H574 : Tryd.prog.funcs[N574]? = some F574 := Tryd.func132
@[reducible] def N575 : FuncId := 133
noncomputable abbrev F575 : Func := Tryd.f133
theorem H575 : Tryd.prog.funcs[N575]? = some F575 := Tryd.func133
@[reducible] def N576 : FuncId := 134
noncomputable abbrev F576 : Func := Tryd.f134
theorem H576 : Tryd.prog.funcs[N576]? = some F576 := Tryd.func134
@[reducible] def N577 : FuncId := 135
noncomputable abbrev F577 : Func := Tryd.f135
theorem H577 : Tryd.prog.funcs[N577]? = some F577 := Tryd.func135
@[reducible] def N603 : FuncId := 3
noncomputable abbrev F603 : Func := Tryd.f3
theorem H603 : Tryd.prog.funcs[N603]? = some F603 := Tryd.func3
@[reducible] def N604 : FuncId := 4
noncomputable abbrev F604 : Func := Tryd.f4
theorem H604 : Tryd.prog.funcs[N604]? = some F604 := Tryd.func4
@[reducible] def N605 : FuncId := 5
noncomputable abbrev F605 : Func := Tryd.f5
theorem H605 : Tryd.prog.funcs[N605]? = some F605 := Tryd.func5
@[reducible] def N606 : FuncId := 6
noncomputable abbrev F606 : Func := Tryd.f6
theorem H606 : Tryd.prog.funcs[N606]? = some F606 := Tryd.func6
@[reducible] def N607 : FuncId := 7
noncomputable abbrev F607 : Func := Tryd.f7
theorem H607 : Tryd.prog.funcs[N607]? = some F607 := Tryd.func7
@[reducible] def N608 : FuncId := 8
noncomputable abbrev F608 : Func := Tryd.f8
theorem H608 : Tryd.prog.funcs[N608]? = some F608 := Tryd.func8
@[reducible] def N609 : FuncId := 9
noncomputable abbrev F609 : Func := Tryd.f9
theorem H609 : Tryd.prog.funcs[N609]? = some F609 := Tryd.func9
@[reducible] def N615 : FuncId := 15
noncomputable abbrev F615 : Func := Tryd.f15
theorem H615 : Tryd.prog.funcs[N615]? = some F615 := Tryd.func15
@[reducible] def N616 : FuncId := 16
noncomputable abbrev F616 : Func := Tryd.f16
theorem H616 : Tryd.prog.funcs[N616]? = some F616 := Tryd.func16
@[reducible] def N617 : FuncId := 17
noncomputable abbrev F617 : Func := Tryd.f17
theorem H617 : Tryd.prog.funcs[N617]? = some F617 := Tryd.func17
@[reducible] def N618 : FuncId := 18
noncomputable abbrev F618 : Func := Tryd.f18
theorem H618 : Tryd.prog.funcs[N618]? = some F618 := Tryd.func18
@[reducible] def N633 : FuncId := 33
noncomputable abbrev F633 : Func := Tryd.f33
theorem H633 : Tryd.prog.funcs[N633]? = some F633 := Tryd.func33
@[reducible] def headsT : TypeId := 108
@[reducible] def strT : TypeId := 9
end Go.AM.Seat
