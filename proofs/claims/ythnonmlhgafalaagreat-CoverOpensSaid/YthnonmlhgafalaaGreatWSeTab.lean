import Derived.Test.YthnonmlhgafalaaGreatWAmTab
import Derived.Test.YthnonmlhgafalaaGreatChecked
import Derived.Eval
import Derived.KernelRfl
set_option linter.unusedVariables false
namespace Go.AM.Seat
open Go Go.AM Go.Proofs
def tb:Tab:=[
 (2,TI.scal (SV.int IntKind.i64 (Int.ofNat 0))),
 (3,TI.scal (SV.int IntKind.i64 (Int.ofNat 0))),
 (4,TI.scal (SV.bool false)),
 (5,TI.scal (SV.int IntKind.u8 (Int.ofNat 0))),
 (9,TI.scal (SV.str ByteArray.empty)),
 (13,TI.struct 2 [SV.str ByteArray.empty,SV.int IntKind.u64 (Int.ofNat 0)] [(0,1,false),(1,1,false)] none),
 (21,TI.scal (SV.int IntKind.i32 (Int.ofNat 0))),
 (22,TI.scal (SV.int IntKind.u64 (Int.ofNat 0))),
 (23,TI.array 2 [SV.int IntKind.u64 (Int.ofNat 0),SV.int IntKind.u64 (Int.ofNat 0)] (some [CK.int IntKind.u64,CK.int IntKind.u64])),
 (24,TI.array 2 [SV.int IntKind.u64 (Int.ofNat 0),SV.int IntKind.u64 (Int.ofNat 0)] (some [CK.int IntKind.u64,CK.int IntKind.u64])),
 (25,TI.struct 4 [SV.int IntKind.u64 (Int.ofNat 0),SV.int IntKind.u64 (Int.ofNat 0),SV.int IntKind.u64 (Int.ofNat 0),SV.int IntKind.u64 (Int.ofNat 0)] [(0,2,true),(2,2,true)] (some [CK.int IntKind.u64,CK.int IntKind.u64,CK.int IntKind.u64,CK.int IntKind.u64])),
 (26,TI.struct 4 [SV.int IntKind.u64 (Int.ofNat 0),SV.int IntKind.u64 (Int.ofNat 0),SV.int IntKind.u64 (Int.ofNat 0),SV.int IntKind.u64 (Int.ofNat 0)] [(0,2,true),(2,2,true)] (some [CK.int IntKind.u64,CK.int IntKind.u64,CK.int IntKind.u64,CK.int IntKind.u64])),
 (27,TI.struct 9 [SV.bool false,SV.bool false,SV.int IntKind.u64 (Int.ofNat 0),SV.int IntKind.u64 (Int.ofNat 0),SV.int IntKind.u64 (Int.ofNat 0),SV.int IntKind.u64 (Int.ofNat 0),SV.int IntKind.u64 (Int.ofNat 0),SV.int IntKind.u64 (Int.ofNat 0),SV.int IntKind.i64 (Int.ofNat 0)] [(0,1,false),(1,1,false),(2,2,true),(4,4,true),(8,1,false)] (some [CK.bool,CK.bool,CK.int IntKind.u64,CK.int IntKind.u64,CK.int IntKind.u64,CK.int IntKind.u64,CK.int IntKind.u64,CK.int IntKind.u64,CK.int IntKind.i64])),
 (28,TI.struct 9 [SV.bool false,SV.bool false,SV.int IntKind.u64 (Int.ofNat 0),SV.int IntKind.u64 (Int.ofNat 0),SV.int IntKind.u64 (Int.ofNat 0),SV.int IntKind.u64 (Int.ofNat 0),SV.int IntKind.u64 (Int.ofNat 0),SV.int IntKind.u64 (Int.ofNat 0),SV.int IntKind.i64 (Int.ofNat 0)] [(0,1,false),(1,1,false),(2,2,true),(4,4,true),(8,1,false)] (some [CK.bool,CK.bool,CK.int IntKind.u64,CK.int IntKind.u64,CK.int IntKind.u64,CK.int IntKind.u64,CK.int IntKind.u64,CK.int IntKind.u64,CK.int IntKind.i64])),
 (29,TI.slice 22 (Ty.int IntKind.u64) 8),
 (30,TI.struct 4 [SV.int IntKind.i64 (Int.ofNat 0),SV.int IntKind.i64 (Int.ofNat 0),SV.nils,SV.int IntKind.i64 (Int.ofNat 0)] [(0,1,false),(1,1,false),(2,1,false),(3,1,false)] none),
 (31,TI.struct 4 [SV.int IntKind.i64 (Int.ofNat 0),SV.int IntKind.i64 (Int.ofNat 0),SV.nils,SV.int IntKind.i64 (Int.ofNat 0)] [(0,1,false),(1,1,false),(2,1,false),(3,1,false)] none),
 (32,TI.slice 24 ((Ty.int IntKind.u64).pair (Ty.int IntKind.u64)) 16),
 (33,TI.slice 48 ((Ty.int IntKind.i64).pair ((Ty.int IntKind.i64).pair (Ty.int IntKind.i64))) 24),
 (34,TI.struct 20 [SV.int IntKind.i64 (Int.ofNat 0),SV.int IntKind.i64 (Int.ofNat 0),SV.bool false,SV.bool false,SV.bool false,SV.int IntKind.u64 (Int.ofNat 0),SV.int IntKind.u64 (Int.ofNat 0),SV.int IntKind.u64 (Int.ofNat 0),SV.int IntKind.u64 (Int.ofNat 0),SV.int IntKind.u64 (Int.ofNat 0),SV.int IntKind.u64 (Int.ofNat 0),SV.int IntKind.i64 (Int.ofNat 0),SV.int IntKind.i64 (Int.ofNat 0),SV.int IntKind.i64 (Int.ofNat 0),SV.nils,SV.int IntKind.i64 (Int.ofNat 0),SV.int IntKind.i64 (Int.ofNat 0),SV.nils,SV.int IntKind.i64 (Int.ofNat 0),SV.nils] [(0,1,false),(1,1,false),(2,1,false),(3,9,true),(12,4,true),(16,1,false),(17,1,false),(18,1,false),(19,1,false)] none),
 (35,TI.struct 20 [SV.int IntKind.i64 (Int.ofNat 0),SV.int IntKind.i64 (Int.ofNat 0),SV.bool false,SV.bool false,SV.bool false,SV.int IntKind.u64 (Int.ofNat 0),SV.int IntKind.u64 (Int.ofNat 0),SV.int IntKind.u64 (Int.ofNat 0),SV.int IntKind.u64 (Int.ofNat 0),SV.int IntKind.u64 (Int.ofNat 0),SV.int IntKind.u64 (Int.ofNat 0),SV.int IntKind.i64 (Int.ofNat 0),SV.int IntKind.i64 (Int.ofNat 0),SV.int IntKind.i64 (Int.ofNat 0),SV.nils,SV.int IntKind.i64 (Int.ofNat 0),SV.int IntKind.i64 (Int.ofNat 0),SV.nils,SV.int IntKind.i64 (Int.ofNat 0),SV.nils] [(0,1,false),(1,1,false),(2,1,false),(3,9,true),(12,4,true),(16,1,false),(17,1,false),(18,1,false),(19,1,false)] none),
 (39,TI.slice 81 (((Ty.int IntKind.u64).pair (Ty.int IntKind.u64)).pair (Ty.bool.pair (Ty.bool.pair (((Ty.int IntKind.u64).pair (Ty.int IntKind.u64)).pair ((((Ty.int IntKind.u64).pair (Ty.int IntKind.u64)).pair ((Ty.int IntKind.u64).pair (Ty.int IntKind.u64))).pair (Ty.int IntKind.i64)))))) 80),
 (40,TI.struct 13 [SV.int IntKind.i64 (Int.ofNat 0),SV.int IntKind.i64 (Int.ofNat 0),SV.int IntKind.i64 (Int.ofNat 0),SV.nils,SV.bool false,SV.bool false,SV.int IntKind.u64 (Int.ofNat 0),SV.int IntKind.u64 (Int.ofNat 0),SV.int IntKind.u64 (Int.ofNat 0),SV.int IntKind.u64 (Int.ofNat 0),SV.int IntKind.u64 (Int.ofNat 0),SV.int IntKind.u64 (Int.ofNat 0),SV.int IntKind.i64 (Int.ofNat 0)] [(0,1,false),(1,1,false),(2,1,false),(3,1,false),(4,9,true)] none),
 (41,TI.struct 13 [SV.int IntKind.i64 (Int.ofNat 0),SV.int IntKind.i64 (Int.ofNat 0),SV.int IntKind.i64 (Int.ofNat 0),SV.nils,SV.bool false,SV.bool false,SV.int IntKind.u64 (Int.ofNat 0),SV.int IntKind.u64 (Int.ofNat 0),SV.int IntKind.u64 (Int.ofNat 0),SV.int IntKind.u64 (Int.ofNat 0),SV.int IntKind.u64 (Int.ofNat 0),SV.int IntKind.u64 (Int.ofNat 0),SV.int IntKind.i64 (Int.ofNat 0)] [(0,1,false),(1,1,false),(2,1,false),(3,1,false),(4,9,true)] none),
 (42,TI.scal (SV.int IntKind.i64 (Int.ofNat 0))),
 (47,TI.struct 3 [SV.int IntKind.i64 (Int.ofNat 0),SV.int IntKind.i64 (Int.ofNat 0),SV.int IntKind.i64 (Int.ofNat 0)] [(0,1,false),(1,1,false),(2,1,false)] (some [CK.int IntKind.i64,CK.int IntKind.i64,CK.int IntKind.i64])),
 (48,TI.struct 3 [SV.int IntKind.i64 (Int.ofNat 0),SV.int IntKind.i64 (Int.ofNat 0),SV.int IntKind.i64 (Int.ofNat 0)] [(0,1,false),(1,1,false),(2,1,false)] (some [CK.int IntKind.i64,CK.int IntKind.i64,CK.int IntKind.i64])),
 (50,TI.slice 91 (((Ty.int IntKind.u64).pair (Ty.int IntKind.u64)).pair (Ty.bool.pair (Ty.bool.pair (((Ty.int IntKind.u64).pair (Ty.int IntKind.u64)).pair ((((Ty.int IntKind.u64).pair (Ty.int IntKind.u64)).pair ((Ty.int IntKind.u64).pair (Ty.int IntKind.u64))).pair (Ty.int IntKind.i64)))))) 80),
 (55,TI.slice 79 ((Ty.int IntKind.u64).pair (Ty.int IntKind.u64)) 16),
 (56,TI.slice 28 (Ty.bool.pair (Ty.bool.pair (((Ty.int IntKind.u64).pair (Ty.int IntKind.u64)).pair ((((Ty.int IntKind.u64).pair (Ty.int IntKind.u64)).pair ((Ty.int IntKind.u64).pair (Ty.int IntKind.u64))).pair (Ty.int IntKind.i64))))) 64),
 (78,TI.struct 2 [SV.int IntKind.u64 (Int.ofNat 0),SV.int IntKind.u64 (Int.ofNat 0)] [(0,1,false),(1,1,false)] (some [CK.int IntKind.u64,CK.int IntKind.u64])),
 (79,TI.struct 2 [SV.int IntKind.u64 (Int.ofNat 0),SV.int IntKind.u64 (Int.ofNat 0)] [(0,1,false),(1,1,false)] (some [CK.int IntKind.u64,CK.int IntKind.u64])),
 (80,TI.struct 11 [SV.int IntKind.u64 (Int.ofNat 0),SV.int IntKind.u64 (Int.ofNat 0),SV.bool false,SV.bool false,SV.int IntKind.u64 (Int.ofNat 0),SV.int IntKind.u64 (Int.ofNat 0),SV.int IntKind.u64 (Int.ofNat 0),SV.int IntKind.u64 (Int.ofNat 0),SV.int IntKind.u64 (Int.ofNat 0),SV.int IntKind.u64 (Int.ofNat 0),SV.int IntKind.i64 (Int.ofNat 0)] [(0,2,true),(2,9,true)] (some [CK.int IntKind.u64,CK.int IntKind.u64,CK.bool,CK.bool,CK.int IntKind.u64,CK.int IntKind.u64,CK.int IntKind.u64,CK.int IntKind.u64,CK.int IntKind.u64,CK.int IntKind.u64,CK.int IntKind.i64])),
 (81,TI.struct 11 [SV.int IntKind.u64 (Int.ofNat 0),SV.int IntKind.u64 (Int.ofNat 0),SV.bool false,SV.bool false,SV.int IntKind.u64 (Int.ofNat 0),SV.int IntKind.u64 (Int.ofNat 0),SV.int IntKind.u64 (Int.ofNat 0),SV.int IntKind.u64 (Int.ofNat 0),SV.int IntKind.u64 (Int.ofNat 0),SV.int IntKind.u64 (Int.ofNat 0),SV.int IntKind.i64 (Int.ofNat 0)] [(0,2,true),(2,9,true)] (some [CK.int IntKind.u64,CK.int IntKind.u64,CK.bool,CK.bool,CK.int IntKind.u64,CK.int IntKind.u64,CK.int IntKind.u64,CK.int IntKind.u64,CK.int IntKind.u64,CK.int IntKind.u64,CK.int IntKind.i64])),
 (89,TI.slice 3 (Ty.int IntKind.i64) 8),
 (90,TI.struct 11 [SV.int IntKind.u64 (Int.ofNat 0),SV.int IntKind.u64 (Int.ofNat 0),SV.bool false,SV.bool false,SV.int IntKind.u64 (Int.ofNat 0),SV.int IntKind.u64 (Int.ofNat 0),SV.int IntKind.u64 (Int.ofNat 0),SV.int IntKind.u64 (Int.ofNat 0),SV.int IntKind.u64 (Int.ofNat 0),SV.int IntKind.u64 (Int.ofNat 0),SV.int IntKind.i64 (Int.ofNat 0)] [(0,2,true),(2,9,true)] (some [CK.int IntKind.u64,CK.int IntKind.u64,CK.bool,CK.bool,CK.int IntKind.u64,CK.int IntKind.u64,CK.int IntKind.u64,CK.int IntKind.u64,CK.int IntKind.u64,CK.int IntKind.u64,CK.int IntKind.i64])),
 (91,TI.struct 11 [SV.int IntKind.u64 (Int.ofNat 0),SV.int IntKind.u64 (Int.ofNat 0),SV.bool false,SV.bool false,SV.int IntKind.u64 (Int.ofNat 0),SV.int IntKind.u64 (Int.ofNat 0),SV.int IntKind.u64 (Int.ofNat 0),SV.int IntKind.u64 (Int.ofNat 0),SV.int IntKind.u64 (Int.ofNat 0),SV.int IntKind.u64 (Int.ofNat 0),SV.int IntKind.i64 (Int.ofNat 0)] [(0,2,true),(2,9,true)] (some [CK.int IntKind.u64,CK.int IntKind.u64,CK.bool,CK.bool,CK.int IntKind.u64,CK.int IntKind.u64,CK.int IntKind.u64,CK.int IntKind.u64,CK.int IntKind.u64,CK.int IntKind.u64,CK.int IntKind.i64])),
 (101,TI.scal SV.nilp),
 (135,TI.slice 4 Ty.bool 1),
 (152,TI.scal SV.nilp),
 (154,TI.struct 11 [SV.nils,SV.bool false,SV.bool false,SV.int IntKind.u64 (Int.ofNat 0),SV.int IntKind.u64 (Int.ofNat 0),SV.int IntKind.u64 (Int.ofNat 0),SV.int IntKind.u64 (Int.ofNat 0),SV.int IntKind.u64 (Int.ofNat 0),SV.int IntKind.u64 (Int.ofNat 0),SV.int IntKind.i64 (Int.ofNat 0),SV.int IntKind.i64 (Int.ofNat 0)] [(0,1,false),(1,9,true),(10,1,false)] none),
 (155,TI.struct 11 [SV.nils,SV.bool false,SV.bool false,SV.int IntKind.u64 (Int.ofNat 0),SV.int IntKind.u64 (Int.ofNat 0),SV.int IntKind.u64 (Int.ofNat 0),SV.int IntKind.u64 (Int.ofNat 0),SV.int IntKind.u64 (Int.ofNat 0),SV.int IntKind.u64 (Int.ofNat 0),SV.int IntKind.i64 (Int.ofNat 0),SV.int IntKind.i64 (Int.ofNat 0)] [(0,1,false),(1,9,true),(10,1,false)] none),
 (161,TI.scal (SV.int IntKind.u64 (Int.ofNat 0))),
 (173,TI.scal SV.nilp),
 (174,TI.struct 3 [SV.int IntKind.i64 (Int.ofNat 0),SV.nils,SV.nils] [(0,1,false),(1,1,false),(2,1,false)] none),
 (175,TI.struct 3 [SV.int IntKind.i64 (Int.ofNat 0),SV.nils,SV.nils] [(0,1,false),(1,1,false),(2,1,false)] none),
 (191,TI.struct 2 [SV.int IntKind.u64 (Int.ofNat 0),SV.int IntKind.u64 (Int.ofNat 0)] [(0,1,false),(1,1,false)] (some [CK.int IntKind.u64,CK.int IntKind.u64])),
 (192,TI.struct 2 [SV.int IntKind.u64 (Int.ofNat 0),SV.int IntKind.u64 (Int.ofNat 0)] [(0,1,false),(1,1,false)] (some [CK.int IntKind.u64,CK.int IntKind.u64])),
 (199,TI.struct 3 [SV.int IntKind.i64 (Int.ofNat 0),SV.int IntKind.i64 (Int.ofNat 0),SV.nils] [(0,1,false),(1,1,false),(2,1,false)] none),
 (200,TI.struct 3 [SV.int IntKind.i64 (Int.ofNat 0),SV.int IntKind.i64 (Int.ofNat 0),SV.nils] [(0,1,false),(1,1,false),(2,1,false)] none),
 (209,TI.scal SV.nilp),
 (213,TI.slice 89 (Ty.int IntKind.i64).sl 24),
 (214,TI.struct 4 [SV.nils,SV.nils,SV.nils,SV.nils] [(0,1,false),(1,1,false),(2,1,false),(3,1,false)] none),
 (215,TI.struct 4 [SV.nils,SV.nils,SV.nils,SV.nils] [(0,1,false),(1,1,false),(2,1,false),(3,1,false)] none),
 (227,TI.scal (SV.int IntKind.u32 (Int.ofNat 0))),
 (253,TI.map ((Ty.int IntKind.i64).pair ((Ty.int IntKind.i64).pair (Ty.int IntKind.i64))) (Ty.int IntKind.i64)),
 (259,TI.slice 5 (Ty.int IntKind.u8) 1),
 (265,TI.scal (SV.int IntKind.i64 (Int.ofNat 0))),
 (284,TI.scal (SV.int IntKind.u64 (Int.ofNat 0))),
 (294,TI.slice 29 (Ty.int IntKind.u64).sl 24)]
def tbTypes:List TypeId:=[2,3,4,5,9,13,21,22,23,24,25,26,27,28,29,30,31,32,33,34,35,39,40,41,42,47,48,50,55,56,78,79,80,81,89,90,91,101,135,152,154,155,161,173,174,175,191,192,199,200,209,213,214,215,227,253,259,265,284,294]
theorem tbOk:TabOk Tryz.prog tb:=mkTab_ok (Ts:=tbTypes) (by kernel_rfl)
theorem mixed:Tryz.prog.follows .mixedOrders=true:=Tryz.checked.mixed
@[reducible] def N17:FuncId:=67
noncomputable abbrev F17:Func:=Tryz.f67
theorem H17:Tryz.prog.funcs[N17]? =some F17:=Tryz.func67
@[reducible] def N18:FuncId:=41
noncomputable abbrev F18:Func:=Tryz.f41
theorem H18:Tryz.prog.funcs[N18]? =some F18:=Tryz.func41
@[reducible] def N19:FuncId:=111
noncomputable abbrev F19:Func:=Tryz.f111
theorem H19:Tryz.prog.funcs[N19]? =some F19:=Tryz.func111
@[reducible] def N22:FuncId:=141
noncomputable abbrev F22:Func:=Tryz.f141
theorem H22:Tryz.prog.funcs[N22]? =some F22:=Tryz.func141
@[reducible] def N23:FuncId:=133
noncomputable abbrev F23:Func:=Tryz.f133
theorem H23:Tryz.prog.funcs[N23]? =some F23:=Tryz.func133
@[reducible] def N25:FuncId:=76
noncomputable abbrev F25:Func:=Tryz.f76
theorem H25:Tryz.prog.funcs[N25]? =some F25:=Tryz.func76
@[reducible] def N26:FuncId:=29
noncomputable abbrev F26:Func:=Tryz.f29
theorem H26:Tryz.prog.funcs[N26]? =some F26:=Tryz.func29
@[reducible] def N27:FuncId:=128
noncomputable abbrev F27:Func:=Tryz.f128
theorem H27:Tryz.prog.funcs[N27]? =some F27:=Tryz.func128
@[reducible] def N44:FuncId:=97
noncomputable abbrev F44:Func:=Tryz.f97
theorem H44:Tryz.prog.funcs[N44]? =some F44:=Tryz.func97
@[reducible] def N45:FuncId:=126
noncomputable abbrev F45:Func:=Tryz.f126
theorem H45:Tryz.prog.funcs[N45]? =some F45:=Tryz.func126
@[reducible] def N46:FuncId:=127
noncomputable abbrev F46:Func:=Tryz.f127
theorem H46:Tryz.prog.funcs[N46]? =some F46:=Tryz.func127
@[reducible] def N47:FuncId:=65
noncomputable abbrev F47:Func:=Tryz.f65
theorem H47:Tryz.prog.funcs[N47]? =some F47:=Tryz.func65
@[reducible] def N48:FuncId:=98
noncomputable abbrev F48:Func:=Tryz.f98
theorem H48:Tryz.prog.funcs[N48]? =some F48:=Tryz.func98
@[reducible] def N49:FuncId:=191
noncomputable abbrev F49:Func:=Tryz.f191
theorem H49:Tryz.prog.funcs[N49]? =some F49:=Tryz.func191
@[reducible] def N50:FuncId:=114
noncomputable abbrev F50:Func:=Tryz.f114
theorem H50:Tryz.prog.funcs[N50]? =some F50:=Tryz.func114
@[reducible] def N51:FuncId:=115
noncomputable abbrev F51:Func:=Tryz.f115
theorem H51:Tryz.prog.funcs[N51]? =some F51:=Tryz.func115
@[reducible] def N52:FuncId:=116
noncomputable abbrev F52:Func:=Tryz.f116
theorem H52:Tryz.prog.funcs[N52]? =some F52:=Tryz.func116
@[reducible] def N53:FuncId:=219
noncomputable abbrev F53:Func:=Tryz.f219
theorem H53:Tryz.prog.funcs[N53]? =some F53:=Tryz.func219
@[reducible] def N54:FuncId:=118
noncomputable abbrev F54:Func:=Tryz.f118
theorem H54:Tryz.prog.funcs[N54]? =some F54:=Tryz.func118
@[reducible] def N55:FuncId:=196
noncomputable abbrev F55:Func:=Tryz.f196
theorem H55:Tryz.prog.funcs[N55]? =some F55:=Tryz.func196
@[reducible] def N56:FuncId:=117
noncomputable abbrev F56:Func:=Tryz.f117
theorem H56:Tryz.prog.funcs[N56]? =some F56:=Tryz.func117
@[reducible] def N58:FuncId:=147
noncomputable abbrev F58:Func:=Tryz.f147
theorem H58:Tryz.prog.funcs[N58]? =some F58:=Tryz.func147
@[reducible] def N59:FuncId:=195
noncomputable abbrev F59:Func:=Tryz.f195
theorem H59:Tryz.prog.funcs[N59]? =some F59:=Tryz.func195
@[reducible] def N67:FuncId:=165
noncomputable abbrev F67:Func:=Tryz.f165
theorem H67:Tryz.prog.funcs[N67]? =some F67:=Tryz.func165
@[reducible] def N74:FuncId:=306
noncomputable abbrev F74:Func:=Tryz.f306
theorem H74:Tryz.prog.funcs[N74]? =some F74:=Tryz.func306
@[reducible] def N84:FuncId:=200
noncomputable abbrev F84:Func:=Tryz.f200
theorem H84:Tryz.prog.funcs[N84]? =some F84:=Tryz.func200
@[reducible] def N85:FuncId:=174
noncomputable abbrev F85:Func:=Tryz.f174
theorem H85:Tryz.prog.funcs[N85]? =some F85:=Tryz.func174
@[reducible] def N86:FuncId:=175
noncomputable abbrev F86:Func:=Tryz.f175
theorem H86:Tryz.prog.funcs[N86]? =some F86:=Tryz.func175
@[reducible] def N87:FuncId:=201
noncomputable abbrev F87:Func:=Tryz.f201
theorem H87:Tryz.prog.funcs[N87]? =some F87:=Tryz.func201
@[reducible] def N88:FuncId:=250
noncomputable abbrev F88:Func:=Tryz.f250
theorem H88:Tryz.prog.funcs[N88]? =some F88:=Tryz.func250
@[reducible] def N89:FuncId:=192
noncomputable abbrev F89:Func:=Tryz.f192
theorem H89:Tryz.prog.funcs[N89]? =some F89:=Tryz.func192
@[reducible] def N90:FuncId:=193
noncomputable abbrev F90:Func:=Tryz.f193
theorem H90:Tryz.prog.funcs[N90]? =some F90:=Tryz.func193
@[reducible] def N91:FuncId:=194
noncomputable abbrev F91:Func:=Tryz.f194
theorem H91:Tryz.prog.funcs[N91]? =some F91:=Tryz.func194
@[reducible] def N92:FuncId:=256
noncomputable abbrev F92:Func:=Tryz.f256
theorem H92:Tryz.prog.funcs[N92]? =some F92:=Tryz.func256
@[reducible] def N93:FuncId:=197
noncomputable abbrev F93:Func:=Tryz.f197
theorem H93:Tryz.prog.funcs[N93]? =some F93:=Tryz.func197
@[reducible] def N94:FuncId:=252
noncomputable abbrev F94:Func:=Tryz.f252
theorem H94:Tryz.prog.funcs[N94]? =some F94:=Tryz.func252
@[reducible] def N95:FuncId:=198
noncomputable abbrev F95:Func:=Tryz.f198
theorem H95:Tryz.prog.funcs[N95]? =some F95:=Tryz.func198
@[reducible] def N101:FuncId:=234
noncomputable abbrev F101:Func:=Tryz.f234
theorem H101:Tryz.prog.funcs[N101]? =some F101:=Tryz.func234
@[reducible] def N103:FuncId:=255
noncomputable abbrev F103:Func:=Tryz.f255
theorem H103:Tryz.prog.funcs[N103]? =some F103:=Tryz.func255
@[reducible] def N104:FuncId:=287
noncomputable abbrev F104:Func:=Tryz.f287
theorem H104:Tryz.prog.funcs[N104]? =some F104:=Tryz.func287
@[reducible] def N105:FuncId:=251
noncomputable abbrev F105:Func:=Tryz.f251
theorem H105:Tryz.prog.funcs[N105]? =some F105:=Tryz.func251
@[reducible] def N106:FuncId:=290
noncomputable abbrev F106:Func:=Tryz.f290
theorem H106:Tryz.prog.funcs[N106]? =some F106:=Tryz.func290
@[reducible] def N107:FuncId:=288
noncomputable abbrev F107:Func:=Tryz.f288
theorem H107:Tryz.prog.funcs[N107]? =some F107:=Tryz.func288
@[reducible] def N108:FuncId:=253
noncomputable abbrev F108:Func:=Tryz.f253
theorem H108:Tryz.prog.funcs[N108]? =some F108:=Tryz.func253
@[reducible] def N109:FuncId:=254
noncomputable abbrev F109:Func:=Tryz.f254
theorem H109:Tryz.prog.funcs[N109]? =some F109:=Tryz.func254
@[reducible] def N119:FuncId:=262
noncomputable abbrev F119:Func:=Tryz.f262
theorem H119:Tryz.prog.funcs[N119]? =some F119:=Tryz.func262
@[reducible] def N121:FuncId:=307
noncomputable abbrev F121:Func:=Tryz.f307
theorem H121:Tryz.prog.funcs[N121]? =some F121:=Tryz.func307
@[reducible] def N122:FuncId:=308
noncomputable abbrev F122:Func:=Tryz.f308
theorem H122:Tryz.prog.funcs[N122]? =some F122:=Tryz.func308
@[reducible] def N123:FuncId:=289
noncomputable abbrev F123:Func:=Tryz.f289
theorem H123:Tryz.prog.funcs[N123]? =some F123:=Tryz.func289
@[reducible] def N309:FuncId:=140
noncomputable abbrev F309:Func:=Tryz.f140
theorem H309:Tryz.prog.funcs[N309]? =some F309:=Tryz.func140
@[reducible] def N310:FuncId:=82
noncomputable abbrev F310:Func:=Tryz.f82
theorem H310:Tryz.prog.funcs[N310]? =some F310:=Tryz.func82
@[reducible] def N311:FuncId:=217
noncomputable abbrev F311:Func:=Tryz.f217
theorem H311:Tryz.prog.funcs[N311]? =some F311:=Tryz.func217
@[reducible] def N312:FuncId:=89
noncomputable abbrev F312:Func:=Tryz.f89
theorem H312:Tryz.prog.funcs[N312]? =some F312:=Tryz.func89
@[reducible] def N314:FuncId:=145
noncomputable abbrev F314:Func:=Tryz.f145
theorem H314:Tryz.prog.funcs[N314]? =some F314:=Tryz.func145
@[reducible] def N315:FuncId:=35
noncomputable abbrev F315:Func:=Tryz.f35
theorem H315:Tryz.prog.funcs[N315]? =some F315:=Tryz.func35
@[reducible] def N316:FuncId:=74
noncomputable abbrev F316:Func:=Tryz.f74
theorem H316:Tryz.prog.funcs[N316]? =some F316:=Tryz.func74
@[reducible] def N317:FuncId:=33
noncomputable abbrev F317:Func:=Tryz.f33
theorem H317:Tryz.prog.funcs[N317]? =some F317:=Tryz.func33
@[reducible] def N318:FuncId:=61
noncomputable abbrev F318:Func:=Tryz.f61
theorem H318:Tryz.prog.funcs[N318]? =some F318:=Tryz.func61
@[reducible] def N319:FuncId:=73
noncomputable abbrev F319:Func:=Tryz.f73
theorem H319:Tryz.prog.funcs[N319]? =some F319:=Tryz.func73
@[reducible] def N320:FuncId:=66
noncomputable abbrev F320:Func:=Tryz.f66
theorem H320:Tryz.prog.funcs[N320]? =some F320:=Tryz.func66
@[reducible] def N322:FuncId:=32
noncomputable abbrev F322:Func:=Tryz.f32
theorem H322:Tryz.prog.funcs[N322]? =some F322:=Tryz.func32
@[reducible] def N323:FuncId:=49
noncomputable abbrev F323:Func:=Tryz.f49
theorem H323:Tryz.prog.funcs[N323]? =some F323:=Tryz.func49
@[reducible] def N324:FuncId:=216
noncomputable abbrev F324:Func:=Tryz.f216
theorem H324:Tryz.prog.funcs[N324]? =some F324:=Tryz.func216
@[reducible] def N325:FuncId:=218
noncomputable abbrev F325:Func:=Tryz.f218
theorem H325:Tryz.prog.funcs[N325]? =some F325:=Tryz.func218
@[reducible] def N326:FuncId:=163
noncomputable abbrev F326:Func:=Tryz.f163
theorem H326:Tryz.prog.funcs[N326]? =some F326:=Tryz.func163
@[reducible] def N327:FuncId:=120
noncomputable abbrev F327:Func:=Tryz.f120
theorem H327:Tryz.prog.funcs[N327]? =some F327:=Tryz.func120
@[reducible] def N328:FuncId:=235
noncomputable abbrev F328:Func:=Tryz.f235
theorem H328:Tryz.prog.funcs[N328]? =some F328:=Tryz.func235
@[reducible] def N329:FuncId:=236
noncomputable abbrev F329:Func:=Tryz.f236
theorem H329:Tryz.prog.funcs[N329]? =some F329:=Tryz.func236
@[reducible] def N330:FuncId:=220
noncomputable abbrev F330:Func:=Tryz.f220
theorem H330:Tryz.prog.funcs[N330]? =some F330:=Tryz.func220
@[reducible] def N331:FuncId:=167
noncomputable abbrev F331:Func:=Tryz.f167
theorem H331:Tryz.prog.funcs[N331]? =some F331:=Tryz.func167
@[reducible] def N332:FuncId:=168
noncomputable abbrev F332:Func:=Tryz.f168
theorem H332:Tryz.prog.funcs[N332]? =some F332:=Tryz.func168
@[reducible] def N333:FuncId:=169
noncomputable abbrev F333:Func:=Tryz.f169
theorem H333:Tryz.prog.funcs[N333]? =some F333:=Tryz.func169
@[reducible] def N334:FuncId:=176
noncomputable abbrev F334:Func:=Tryz.f176
theorem H334:Tryz.prog.funcs[N334]? =some F334:=Tryz.func176
@[reducible] def N335:FuncId:=69
noncomputable abbrev F335:Func:=Tryz.f69
theorem H335:Tryz.prog.funcs[N335]? =some F335:=Tryz.func69
@[reducible] def N336:FuncId:=143
noncomputable abbrev F336:Func:=Tryz.f143
theorem H336:Tryz.prog.funcs[N336]? =some F336:=Tryz.func143
@[reducible] def N337:FuncId:=202
noncomputable abbrev F337:Func:=Tryz.f202
theorem H337:Tryz.prog.funcs[N337]? =some F337:=Tryz.func202
@[reducible] def N338:FuncId:=207
noncomputable abbrev F338:Func:=Tryz.f207
theorem H338:Tryz.prog.funcs[N338]? =some F338:=Tryz.func207
@[reducible] def N339:FuncId:=63
noncomputable abbrev F339:Func:=Tryz.f63
theorem H339:Tryz.prog.funcs[N339]? =some F339:=Tryz.func63
@[reducible] def N340:FuncId:=85
noncomputable abbrev F340:Func:=Tryz.f85
theorem H340:Tryz.prog.funcs[N340]? =some F340:=Tryz.func85
@[reducible] def N341:FuncId:=86
noncomputable abbrev F341:Func:=Tryz.f86
theorem H341:Tryz.prog.funcs[N341]? =some F341:=Tryz.func86
@[reducible] def N342:FuncId:=87
noncomputable abbrev F342:Func:=Tryz.f87
theorem H342:Tryz.prog.funcs[N342]? =some F342:=Tryz.func87
@[reducible] def N343:FuncId:=88
noncomputable abbrev F343:Func:=Tryz.f88
theorem H343:Tryz.prog.funcs[N343]? =some F343:=Tryz.func88
@[reducible] def N344:FuncId:=142
noncomputable abbrev F344:Func:=Tryz.f142
theorem H344:Tryz.prog.funcs[N344]? =some F344:=Tryz.func142
@[reducible] def N345:FuncId:=130
noncomputable abbrev F345:Func:=Tryz.f130
theorem H345:Tryz.prog.funcs[N345]? =some F345:=Tryz.func130
@[reducible] def N346:FuncId:=83
noncomputable abbrev F346:Func:=Tryz.f83
theorem H346:Tryz.prog.funcs[N346]? =some F346:=Tryz.func83
@[reducible] def N347:FuncId:=84
noncomputable abbrev F347:Func:=Tryz.f84
theorem H347:Tryz.prog.funcs[N347]? =some F347:=Tryz.func84
@[reducible] def N348:FuncId:=77
noncomputable abbrev F348:Func:=Tryz.f77
theorem H348:Tryz.prog.funcs[N348]? =some F348:=Tryz.func77
@[reducible] def N349:FuncId:=139
noncomputable abbrev F349:Func:=Tryz.f139
theorem H349:Tryz.prog.funcs[N349]? =some F349:=Tryz.func139
@[reducible] def N351:FuncId:=122
noncomputable abbrev F351:Func:=Tryz.f122
theorem H351:Tryz.prog.funcs[N351]? =some F351:=Tryz.func122
@[reducible] def N352:FuncId:=123
noncomputable abbrev F352:Func:=Tryz.f123
theorem H352:Tryz.prog.funcs[N352]? =some F352:=Tryz.func123
@[reducible] def N353:FuncId:=124
noncomputable abbrev F353:Func:=Tryz.f124
theorem H353:Tryz.prog.funcs[N353]? =some F353:=Tryz.func124
@[reducible] def N354:FuncId:=125
noncomputable abbrev F354:Func:=Tryz.f125
theorem H354:Tryz.prog.funcs[N354]? =some F354:=Tryz.func125
@[reducible] def N356:FuncId:=78
noncomputable abbrev F356:Func:=Tryz.f78
theorem H356:Tryz.prog.funcs[N356]? =some F356:=Tryz.func78
@[reducible] def N357:FuncId:=79
noncomputable abbrev F357:Func:=Tryz.f79
theorem H357:Tryz.prog.funcs[N357]? =some F357:=Tryz.func79
@[reducible] def N358:FuncId:=80
noncomputable abbrev F358:Func:=Tryz.f80
theorem H358:Tryz.prog.funcs[N358]? =some F358:=Tryz.func80
@[reducible] def N359:FuncId:=81
noncomputable abbrev F359:Func:=Tryz.f81
theorem H359:Tryz.prog.funcs[N359]? =some F359:=Tryz.func81
@[reducible] def N360:FuncId:=110
noncomputable abbrev F360:Func:=Tryz.f110
theorem H360:Tryz.prog.funcs[N360]? =some F360:=Tryz.func110
@[reducible] def N361:FuncId:=261
noncomputable abbrev F361:Func:=Tryz.f261
theorem H361:Tryz.prog.funcs[N361]? =some F361:=Tryz.func261
@[reducible] def N362:FuncId:=229
noncomputable abbrev F362:Func:=Tryz.f229
theorem H362:Tryz.prog.funcs[N362]? =some F362:=Tryz.func229
@[reducible] def N363:FuncId:=157
noncomputable abbrev F363:Func:=Tryz.f157
theorem H363:Tryz.prog.funcs[N363]? =some F363:=Tryz.func157
@[reducible] def N364:FuncId:=233
noncomputable abbrev F364:Func:=Tryz.f233
theorem H364:Tryz.prog.funcs[N364]? =some F364:=Tryz.func233
@[reducible] def N365:FuncId:=156
noncomputable abbrev F365:Func:=Tryz.f156
theorem H365:Tryz.prog.funcs[N365]? =some F365:=Tryz.func156
@[reducible] def N366:FuncId:=148
noncomputable abbrev F366:Func:=Tryz.f148
theorem H366:Tryz.prog.funcs[N366]? =some F366:=Tryz.func148
@[reducible] def N368:FuncId:=237
noncomputable abbrev F368:Func:=Tryz.f237
theorem H368:Tryz.prog.funcs[N368]? =some F368:=Tryz.func237
@[reducible] def N369:FuncId:=238
noncomputable abbrev F369:Func:=Tryz.f238
theorem H369:Tryz.prog.funcs[N369]? =some F369:=Tryz.func238
@[reducible] def N370:FuncId:=242
noncomputable abbrev F370:Func:=Tryz.f242
theorem H370:Tryz.prog.funcs[N370]? =some F370:=Tryz.func242
@[reducible] def N371:FuncId:=243
noncomputable abbrev F371:Func:=Tryz.f243
theorem H371:Tryz.prog.funcs[N371]? =some F371:=Tryz.func243
@[reducible] def N372:FuncId:=131
noncomputable abbrev F372:Func:=Tryz.f131
theorem H372:Tryz.prog.funcs[N372]? =some F372:=Tryz.func131
@[reducible] def N373:FuncId:=129
noncomputable abbrev F373:Func:=Tryz.f129
theorem H373:Tryz.prog.funcs[N373]? =some F373:=Tryz.func129
@[reducible] def N374:FuncId:=103
noncomputable abbrev F374:Func:=Tryz.f103
theorem H374:Tryz.prog.funcs[N374]? =some F374:=Tryz.func103
@[reducible] def N375:FuncId:=166
noncomputable abbrev F375:Func:=Tryz.f166
theorem H375:Tryz.prog.funcs[N375]? =some F375:=Tryz.func166
@[reducible] def N376:FuncId:=180
noncomputable abbrev F376:Func:=Tryz.f180
theorem H376:Tryz.prog.funcs[N376]? =some F376:=Tryz.func180
@[reducible] def N377:FuncId:=164
noncomputable abbrev F377:Func:=Tryz.f164
theorem H377:Tryz.prog.funcs[N377]? =some F377:=Tryz.func164
@[reducible] def N379:FuncId:=215
noncomputable abbrev F379:Func:=Tryz.f215
theorem H379:Tryz.prog.funcs[N379]? =some F379:=Tryz.func215
@[reducible] def N385:FuncId:=199
noncomputable abbrev F385:Func:=Tryz.f199
theorem H385:Tryz.prog.funcs[N385]? =some F385:=Tryz.func199
@[reducible] def N387:FuncId:=149
noncomputable abbrev F387:Func:=Tryz.f149
theorem H387:Tryz.prog.funcs[N387]? =some F387:=Tryz.func149
@[reducible] def N388:FuncId:=150
noncomputable abbrev F388:Func:=Tryz.f150
theorem H388:Tryz.prog.funcs[N388]? =some F388:=Tryz.func150
@[reducible] def N389:FuncId:=151
noncomputable abbrev F389:Func:=Tryz.f151
theorem H389:Tryz.prog.funcs[N389]? =some F389:=Tryz.func151
@[reducible] def N390:FuncId:=152
noncomputable abbrev F390:Func:=Tryz.f152
theorem H390:Tryz.prog.funcs[N390]? =some F390:=Tryz.func152
@[reducible] def N391:FuncId:=153
noncomputable abbrev F391:Func:=Tryz.f153
theorem H391:Tryz.prog.funcs[N391]? =some F391:=Tryz.func153
@[reducible] def N392:FuncId:=154
noncomputable abbrev F392:Func:=Tryz.f154
theorem H392:Tryz.prog.funcs[N392]? =some F392:=Tryz.func154
@[reducible] def N393:FuncId:=155
noncomputable abbrev F393:Func:=Tryz.f155
theorem H393:Tryz.prog.funcs[N393]? =some F393:=Tryz.func155
@[reducible] def N394:FuncId:=158
noncomputable abbrev F394:Func:=Tryz.f158
theorem H394:Tryz.prog.funcs[N394]? =some F394:=Tryz.func158
@[reducible] def N395:FuncId:=159
noncomputable abbrev F395:Func:=Tryz.f159
theorem H395:Tryz.prog.funcs[N395]? =some F395:=Tryz.func159
@[reducible] def N396:FuncId:=160
noncomputable abbrev F396:Func:=Tryz.f160
theorem H396:Tryz.prog.funcs[N396]? =some F396:=Tryz.func160
@[reducible] def N397:FuncId:=161
noncomputable abbrev F397:Func:=Tryz.f161
theorem H397:Tryz.prog.funcs[N397]? =some F397:=Tryz.func161
@[reducible] def N398:FuncId:=162
noncomputable abbrev F398:Func:=Tryz.f162
theorem H398:Tryz.prog.funcs[N398]? =some F398:=Tryz.func162
@[reducible] def N399:FuncId:=228
noncomputable abbrev F399:Func:=Tryz.f228
theorem H399:Tryz.prog.funcs[N399]? =some F399:=Tryz.func228
@[reducible] def N400:FuncId:=173
noncomputable abbrev F400:Func:=Tryz.f173
theorem H400:Tryz.prog.funcs[N400]? =some F400:=Tryz.func173
@[reducible] def N401:FuncId:=241
noncomputable abbrev F401:Func:=Tryz.f241
theorem H401:Tryz.prog.funcs[N401]? =some F401:=Tryz.func241
@[reducible] def N402:FuncId:=264
noncomputable abbrev F402:Func:=Tryz.f264
theorem H402:Tryz.prog.funcs[N402]? =some F402:=Tryz.func264
@[reducible] def N403:FuncId:=203
noncomputable abbrev F403:Func:=Tryz.f203
theorem H403:Tryz.prog.funcs[N403]? =some F403:=Tryz.func203
@[reducible] def N404:FuncId:=204
noncomputable abbrev F404:Func:=Tryz.f204
theorem H404:Tryz.prog.funcs[N404]? =some F404:=Tryz.func204
@[reducible] def N405:FuncId:=205
noncomputable abbrev F405:Func:=Tryz.f205
theorem H405:Tryz.prog.funcs[N405]? =some F405:=Tryz.func205
@[reducible] def N412:FuncId:=221
noncomputable abbrev F412:Func:=Tryz.f221
theorem H412:Tryz.prog.funcs[N412]? =some F412:=Tryz.func221
@[reducible] def N413:FuncId:=222
noncomputable abbrev F413:Func:=Tryz.f222
theorem H413:Tryz.prog.funcs[N413]? =some F413:=Tryz.func222
@[reducible] def N414:FuncId:=223
noncomputable abbrev F414:Func:=Tryz.f223
theorem H414:Tryz.prog.funcs[N414]? =some F414:=Tryz.func223
@[reducible] def N415:FuncId:=224
noncomputable abbrev F415:Func:=Tryz.f224
theorem H415:Tryz.prog.funcs[N415]? =some F415:=Tryz.func224
@[reducible] def N416:FuncId:=225
noncomputable abbrev F416:Func:=Tryz.f225
theorem H416:Tryz.prog.funcs[N416]? =some F416:=Tryz.func225
@[reducible] def N419:FuncId:=230
noncomputable abbrev F419:Func:=Tryz.f230
theorem H419:Tryz.prog.funcs[N419]? =some F419:=Tryz.func230
@[reducible] def N420:FuncId:=231
noncomputable abbrev F420:Func:=Tryz.f231
theorem H420:Tryz.prog.funcs[N420]? =some F420:=Tryz.func231
@[reducible] def N421:FuncId:=232
noncomputable abbrev F421:Func:=Tryz.f232
theorem H421:Tryz.prog.funcs[N421]? =some F421:=Tryz.func232
@[reducible] def N422:FuncId:=294
noncomputable abbrev F422:Func:=Tryz.f294
theorem H422:Tryz.prog.funcs[N422]? =some F422:=Tryz.func294
@[reducible] def N423:FuncId:=295
noncomputable abbrev F423:Func:=Tryz.f295
theorem H423:Tryz.prog.funcs[N423]? =some F423:=Tryz.func295
@[reducible] def N424:FuncId:=257
noncomputable abbrev F424:Func:=Tryz.f257
theorem H424:Tryz.prog.funcs[N424]? =some F424:=Tryz.func257
@[reducible] def N427:FuncId:=263
noncomputable abbrev F427:Func:=Tryz.f263
theorem H427:Tryz.prog.funcs[N427]? =some F427:=Tryz.func263
@[reducible] def N428:FuncId:=112
noncomputable abbrev F428:Func:=Tryz.f112
theorem H428:Tryz.prog.funcs[N428]? =some F428:=Tryz.func112
@[reducible] def N438:FuncId:=274
noncomputable abbrev F438:Func:=Tryz.f274
theorem H438:Tryz.prog.funcs[N438]? =some F438:=Tryz.func274
@[reducible] def N439:FuncId:=292
noncomputable abbrev F439:Func:=Tryz.f292
theorem H439:Tryz.prog.funcs[N439]? =some F439:=Tryz.func292
@[reducible] def N440:FuncId:=293
noncomputable abbrev F440:Func:=Tryz.f293
theorem H440:Tryz.prog.funcs[N440]? =some F440:=Tryz.func293
@[reducible] def N446:FuncId:=309
noncomputable abbrev F446:Func:=Tryz.f309
theorem H446:Tryz.prog.funcs[N446]? =some F446:=Tryz.func309
@[reducible] def N615:FuncId:=146
noncomputable abbrev F615:Func:=Tryz.f146
theorem H615:Tryz.prog.funcs[N615]? =some F615:=Tryz.func146
@[reducible] def N633:FuncId:=68
noncomputable abbrev F633:Func:=Tryz.f68
theorem H633:Tryz.prog.funcs[N633]? =some F633:=Tryz.func68
@[reducible] def N706:FuncId:=75
noncomputable abbrev F706:Func:=Tryz.f75
theorem H706:Tryz.prog.funcs[N706]? =some F706:=Tryz.func75
@[reducible] def N713:FuncId:=144
noncomputable abbrev F713:Func:=Tryz.f144
theorem H713:Tryz.prog.funcs[N713]? =some F713:=Tryz.func144
@[reducible] def N806:FuncId:=6
noncomputable abbrev F806:Func:=Tryz.f6
theorem H806:Tryz.prog.funcs[N806]? =some F806:=Tryz.func6
@[reducible] def N823:FuncId:=23
noncomputable abbrev F823:Func:=Tryz.f23
theorem H823:Tryz.prog.funcs[N823]? =some F823:=Tryz.func23
@[reducible] def N824:FuncId:=24
noncomputable abbrev F824:Func:=Tryz.f24
theorem H824:Tryz.prog.funcs[N824]? =some F824:=Tryz.func24
@[reducible] def N826:FuncId:=26
noncomputable abbrev F826:Func:=Tryz.f26
theorem H826:Tryz.prog.funcs[N826]? =some F826:=Tryz.func26
@[reducible] def N830:FuncId:=30
noncomputable abbrev F830:Func:=Tryz.f30
theorem H830:Tryz.prog.funcs[N830]? =some F830:=Tryz.func30
@[reducible] def N831:FuncId:=31
noncomputable abbrev F831:Func:=Tryz.f31
theorem H831:Tryz.prog.funcs[N831]? =some F831:=Tryz.func31
@[reducible] def N859:FuncId:=59
noncomputable abbrev F859:Func:=Tryz.f59
theorem H859:Tryz.prog.funcs[N859]? =some F859:=Tryz.func59
@[reducible] def N860:FuncId:=60
noncomputable abbrev F860:Func:=Tryz.f60
theorem H860:Tryz.prog.funcs[N860]? =some F860:=Tryz.func60
@[reducible] def N862:FuncId:=62
noncomputable abbrev F862:Func:=Tryz.f62
theorem H862:Tryz.prog.funcs[N862]? =some F862:=Tryz.func62
@[reducible] def N864:FuncId:=64
noncomputable abbrev F864:Func:=Tryz.f64
theorem H864:Tryz.prog.funcs[N864]? =some F864:=Tryz.func64
@[reducible] def N871:FuncId:=71
noncomputable abbrev F871:Func:=Tryz.f71
theorem H871:Tryz.prog.funcs[N871]? =some F871:=Tryz.func71
@[reducible] def N921:FuncId:=121
noncomputable abbrev F921:Func:=Tryz.f121
theorem H921:Tryz.prog.funcs[N921]? =some F921:=Tryz.func121
@[reducible] def N934:FuncId:=134
noncomputable abbrev F934:Func:=Tryz.f134
theorem H934:Tryz.prog.funcs[N934]? =some F934:=Tryz.func134
@[reducible] def N1009:FuncId:=209
noncomputable abbrev F1009:Func:=Tryz.f209
theorem H1009:Tryz.prog.funcs[N1009]? =some F1009:=Tryz.func209
end Go.AM.Seat
