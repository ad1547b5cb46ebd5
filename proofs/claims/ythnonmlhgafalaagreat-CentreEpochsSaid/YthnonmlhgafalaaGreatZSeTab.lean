import Derived.Test.YthnonmlhgafalaaGreatZAmTab
import Derived.Test.YthnonmlhgafalaaGreatChecked
import Derived.Eval
import Derived.KernelRfl
set_option linter.unusedVariables false
namespace Go.AM.Seat
open Go Go.AM Go.Proofs
def tb:Tab:=[
 (2,TI.scal (SV.int IntKind.i64 (Int.ofNat 0))),
 (3,TI.scal (SV.int IntKind.i64 (Int.ofNat 0))),
 (4,TI.scal (SV.bool false)),
 (5,TI.scal (SV.int IntKind.u8 (Int.ofNat 0))),
 (9,TI.scal (SV.str ByteArray.empty)),
 (13,TI.struct 2 [SV.str ByteArray.empty,SV.int IntKind.u64 (Int.ofNat 0)] [(0,1,false),(1,1,false)] none),
 (21,TI.scal (SV.int IntKind.i32 (Int.ofNat 0))),
 (22,TI.scal (SV.int IntKind.u64 (Int.ofNat 0))),
 (23,TI.array 2 [SV.int IntKind.u64 (Int.ofNat 0),SV.int IntKind.u64 (Int.ofNat 0)] (some [CK.int IntKind.u64,CK.int IntKind.u64])),
 (24,TI.array 2 [SV.int IntKind.u64 (Int.ofNat 0),SV.int IntKind.u64 (Int.ofNat 0)] (some [CK.int IntKind.u64,CK.int IntKind.u64])),
 (25,TI.struct 4 [SV.int IntKind.u64 (Int.ofNat 0),SV.int IntKind.u64 (Int.ofNat 0),SV.int IntKind.u64 (Int.ofNat 0),SV.int IntKind.u64 (Int.ofNat 0)] [(0,2,true),(2,2,true)] (some [CK.int IntKind.u64,CK.int IntKind.u64,CK.int IntKind.u64,CK.int IntKind.u64])),
 (26,TI.struct 4 [SV.int IntKind.u64 (Int.ofNat 0),SV.int IntKind.u64 (Int.ofNat 0),SV.int IntKind.u64 (Int.ofNat 0),SV.int IntKind.u64 (Int.ofNat 0)] [(0,2,true),(2,2,true)] (some [CK.int IntKind.u64,CK.int IntKind.u64,CK.int IntKind.u64,CK.int IntKind.u64])),
 (27,TI.struct 9 [SV.bool false,SV.bool false,SV.int IntKind.u64 (Int.ofNat 0),SV.int IntKind.u64 (Int.ofNat 0),SV.int IntKind.u64 (Int.ofNat 0),SV.int IntKind.u64 (Int.ofNat 0),SV.int IntKind.u64 (Int.ofNat 0),SV.int IntKind.u64 (Int.ofNat 0),SV.int IntKind.i64 (Int.ofNat 0)] [(0,1,false),(1,1,false),(2,2,true),(4,4,true),(8,1,false)] (some [CK.bool,CK.bool,CK.int IntKind.u64,CK.int IntKind.u64,CK.int IntKind.u64,CK.int IntKind.u64,CK.int IntKind.u64,CK.int IntKind.u64,CK.int IntKind.i64])),
 (28,TI.struct 9 [SV.bool false,SV.bool false,SV.int IntKind.u64 (Int.ofNat 0),SV.int IntKind.u64 (Int.ofNat 0),SV.int IntKind.u64 (Int.ofNat 0),SV.int IntKind.u64 (Int.ofNat 0),SV.int IntKind.u64 (Int.ofNat 0),SV.int IntKind.u64 (Int.ofNat 0),SV.int IntKind.i64 (Int.ofNat 0)] [(0,1,false),(1,1,false),(2,2,true),(4,4,true),(8,1,false)] (some [CK.bool,CK.bool,CK.int IntKind.u64,CK.int IntKind.u64,CK.int IntKind.u64,CK.int IntKind.u64,CK.int IntKind.u64,CK.int IntKind.u64,CK.int IntKind.i64])),
 (29,TI.slice 22 (Ty.int IntKind.u64) 8),
 (30,TI.struct 4 [SV.int IntKind.i64 (Int.ofNat 0),SV.int IntKind.i64 (Int.ofNat 0),SV.nils,SV.int IntKind.i64 (Int.ofNat 0)] [(0,1,false),(1,1,false),(2,1,false),(3,1,false)] none),
 (31,TI.struct 4 [SV.int IntKind.i64 (Int.ofNat 0),SV.int IntKind.i64 (Int.ofNat 0),SV.nils,SV.int IntKind.i64 (Int.ofNat 0)] [(0,1,false),(1,1,false),(2,1,false),(3,1,false)] none),
 (32,TI.slice 24 ((Ty.int IntKind.u64).pair (Ty.int IntKind.u64)) 16),
 (33,TI.slice 48 ((Ty.int IntKind.i64).pair ((Ty.int IntKind.i64).pair (Ty.int IntKind.i64))) 24),
 (34,TI.struct 20 [SV.int IntKind.i64 (Int.ofNat 0),SV.int IntKind.i64 (Int.ofNat 0),SV.bool false,SV.bool false,SV.bool false,SV.int IntKind.u64 (Int.ofNat 0),SV.int IntKind.u64 (Int.ofNat 0),SV.int IntKind.u64 (Int.ofNat 0),SV.int IntKind.u64 (Int.ofNat 0),SV.int IntKind.u64 (Int.ofNat 0),SV.int IntKind.u64 (Int.ofNat 0),SV.int IntKind.i64 (Int.ofNat 0),SV.int IntKind.i64 (Int.ofNat 0),SV.int IntKind.i64 (Int.ofNat 0),SV.nils,SV.int IntKind.i64 (Int.ofNat 0),SV.int IntKind.i64 (Int.ofNat 0),SV.nils,SV.int IntKind.i64 (Int.ofNat 0),SV.nils] [(0,1,false),(1,1,false),(2,1,false),(3,9,true),(12,4,true),(16,1,false),(17,1,false),(18,1,false),(19,1,false)] none),
 (35,TI.struct 20 [SV.int IntKind.i64 (Int.ofNat 0),SV.int IntKind.i64 (Int.ofNat 0),SV.bool false,SV.bool false,SV.bool false,SV.int IntKind.u64 (Int.ofNat 0),SV.int IntKind.u64 (Int.ofNat 0),SV.int IntKind.u64 (Int.ofNat 0),SV.int IntKind.u64 (Int.ofNat 0),SV.int IntKind.u64 (Int.ofNat 0),SV.int IntKind.u64 (Int.ofNat 0),SV.int IntKind.i64 (Int.ofNat 0),SV.int IntKind.i64 (Int.ofNat 0),SV.int IntKind.i64 (Int.ofNat 0),SV.nils,SV.int IntKind.i64 (Int.ofNat 0),SV.int IntKind.i64 (Int.ofNat 0),SV.nils,SV.int IntKind.i64 (Int.ofNat 0),SV.nils] [(0,1,false),(1,1,false),(2,1,false),(3,9,true),(12,4,true),(16,1,false),(17,1,false),(18,1,false),(19,1,false)] none),
 (39,TI.slice 81 (((Ty.int IntKind.u64).pair (Ty.int IntKind.u64)).pair (Ty.bool.pair (Ty.bool.pair (((Ty.int IntKind.u64).pair (Ty.int IntKind.u64)).pair ((((Ty.int IntKind.u64).pair (Ty.int IntKind.u64)).pair ((Ty.int IntKind.u64).pair (Ty.int IntKind.u64))).pair (Ty.int IntKind.i64)))))) 80),
 (40,TI.struct 13 [SV.int IntKind.i64 (Int.ofNat 0),SV.int IntKind.i64 (Int.ofNat 0),SV.int IntKind.i64 (Int.ofNat 0),SV.nils,SV.bool false,SV.bool false,SV.int IntKind.u64 (Int.ofNat 0),SV.int IntKind.u64 (Int.ofNat 0),SV.int IntKind.u64 (Int.ofNat 0),SV.int IntKind.u64 (Int.ofNat 0),SV.int IntKind.u64 (Int.ofNat 0),SV.int IntKind.u64 (Int.ofNat 0),SV.int IntKind.i64 (Int.ofNat 0)] [(0,1,false),(1,1,false),(2,1,false),(3,1,false),(4,9,true)] none),
 (41,TI.struct 13 [SV.int IntKind.i64 (Int.ofNat 0),SV.int IntKind.i64 (Int.ofNat 0),SV.int IntKind.i64 (Int.ofNat 0),SV.nils,SV.bool false,SV.bool false,SV.int IntKind.u64 (Int.ofNat 0),SV.int IntKind.u64 (Int.ofNat 0),SV.int IntKind.u64 (Int.ofNat 0),SV.int IntKind.u64 (Int.ofNat 0),SV.int IntKind.u64 (Int.ofNat 0),SV.int IntKind.u64 (Int.ofNat 0),SV.int IntKind.i64 (Int.ofNat 0)] [(0,1,false),(1,1,false),(2,1,false),(3,1,false),(4,9,true)] none),
 (42,TI.scal (SV.int IntKind.i64 (Int.ofNat 0))),
 (47,TI.struct 3 [SV.int IntKind.i64 (Int.ofNat 0),SV.int IntKind.i64 (Int.ofNat 0),SV.int IntKind.i64 (Int.ofNat 0)] [(0,1,false),(1,1,false),(2,1,false)] (some [CK.int IntKind.i64,CK.int IntKind.i64,CK.int IntKind.i64])),
 (48,TI.struct 3 [SV.int IntKind.i64 (Int.ofNat 0),SV.int IntKind.i64 (Int.ofNat 0),SV.int IntKind.i64 (Int.ofNat 0)] [(0,1,false),(1,1,false),(2,1,false)] (some [CK.int IntKind.i64,CK.int IntKind.i64,CK.int IntKind.i64])),
 (50,TI.slice 91 (((Ty.int IntKind.u64).pair (Ty.int IntKind.u64)).pair (Ty.bool.pair (Ty.bool.pair (((Ty.int IntKind.u64).pair (Ty.int IntKind.u64)).pair ((((Ty.int IntKind.u64).pair (Ty.int IntKind.u64)).pair ((Ty.int IntKind.u64).pair (Ty.int IntKind.u64))).pair (Ty.int IntKind.i64)))))) 80),
 (55,TI.slice 79 ((Ty.int IntKind.u64).pair (Ty.int IntKind.u64)) 16),
 (56,TI.slice 28 (Ty.bool.pair (Ty.bool.pair (((Ty.int IntKind.u64).pair (Ty.int IntKind.u64)).pair ((((Ty.int IntKind.u64).pair (Ty.int IntKind.u64)).pair ((Ty.int IntKind.u64).pair (Ty.int IntKind.u64))).pair (Ty.int IntKind.i64))))) 64),
 (78,TI.struct 2 [SV.int IntKind.u64 (Int.ofNat 0),SV.int IntKind.u64 (Int.ofNat 0)] [(0,1,false),(1,1,false)] (some [CK.int IntKind.u64,CK.int IntKind.u64])),
 (79,TI.struct 2 [SV.int IntKind.u64 (Int.ofNat 0),SV.int IntKind.u64 (Int.ofNat 0)] [(0,1,false),(1,1,false)] (some [CK.int IntKind.u64,CK.int IntKind.u64])),
 (80,TI.struct 11 [SV.int IntKind.u64 (Int.ofNat 0),SV.int IntKind.u64 (Int.ofNat 0),SV.bool false,SV.bool false,SV.int IntKind.u64 (Int.ofNat 0),SV.int IntKind.u64 (Int.ofNat 0),SV.int IntKind.u64 (Int.ofNat 0),SV.int IntKind.u64 (Int.ofNat 0),SV.int IntKind.u64 (Int.ofNat 0),SV.int IntKind.u64 (Int.ofNat 0),SV.int IntKind.i64 (Int.ofNat 0)] [(0,2,true),(2,9,true)] (some [CK.int IntKind.u64,CK.int IntKind.u64,CK.bool,CK.bool,CK.int IntKind.u64,CK.int IntKind.u64,CK.int IntKind.u64,CK.int IntKind.u64,CK.int IntKind.u64,CK.int IntKind.u64,CK.int IntKind.i64])),
 (81,TI.struct 11 [SV.int IntKind.u64 (Int.ofNat 0),SV.int IntKind.u64 (Int.ofNat 0),SV.bool false,SV.bool false,SV.int IntKind.u64 (Int.ofNat 0),SV.int IntKind.u64 (Int.ofNat 0),SV.int IntKind.u64 (Int.ofNat 0),SV.int IntKind.u64 (Int.ofNat 0),SV.int IntKind.u64 (Int.ofNat 0),SV.int IntKind.u64 (Int.ofNat 0),SV.int IntKind.i64 (Int.ofNat 0)] [(0,2,true),(2,9,true)] (some [CK.int IntKind.u64,CK.int IntKind.u64,CK.bool,CK.bool,CK.int IntKind.u64,CK.int IntKind.u64,CK.int IntKind.u64,CK.int IntKind.u64,CK.int IntKind.u64,CK.int IntKind.u64,CK.int IntKind.i64])),
 (89,TI.slice 3 (Ty.int IntKind.i64) 8),
 (90,TI.struct 11 [SV.int IntKind.u64 (Int.ofNat 0),SV.int IntKind.u64 (Int.ofNat 0),SV.bool false,SV.bool false,SV.int IntKind.u64 (Int.ofNat 0),SV.int IntKind.u64 (Int.ofNat 0),SV.int IntKind.u64 (Int.ofNat 0),SV.int IntKind.u64 (Int.ofNat 0),SV.int IntKind.u64 (Int.ofNat 0),SV.int IntKind.u64 (Int.ofNat 0),SV.int IntKind.i64 (Int.ofNat 0)] [(0,2,true),(2,9,true)] (some [CK.int IntKind.u64,CK.int IntKind.u64,CK.bool,CK.bool,CK.int IntKind.u64,CK.int IntKind.u64,CK.int IntKind.u64,CK.int IntKind.u64,CK.int IntKind.u64,CK.int IntKind.u64,CK.int IntKind.i64])),
 (91,TI.struct 11 [SV.int IntKind.u64 (Int.ofNat 0),SV.int IntKind.u64 (Int.ofNat 0),SV.bool false,SV.bool false,SV.int IntKind.u64 (Int.ofNat 0),SV.int IntKind.u64 (Int.ofNat 0),SV.int IntKind.u64 (Int.ofNat 0),SV.int IntKind.u64 (Int.ofNat 0),SV.int IntKind.u64 (Int.ofNat 0),SV.int IntKind.u64 (Int.ofNat 0),SV.int IntKind.i64 (Int.ofNat 0)] [(0,2,true),(2,9,true)] (some [CK.int IntKind.u64,CK.int IntKind.u64,CK.bool,CK.bool,CK.int IntKind.u64,CK.int IntKind.u64,CK.int IntKind.u64,CK.int IntKind.u64,CK.int IntKind.u64,CK.int IntKind.u64,CK.int IntKind.i64])),
 (101,TI.scal SV.nilp),
 (135,TI.slice 4 Ty.bool 1),
 (152,TI.scal SV.nilp),
 (154,TI.struct 11 [SV.nils,SV.bool false,SV.bool false,SV.int IntKind.u64 (Int.ofNat 0),SV.int IntKind.u64 (Int.ofNat 0),SV.int IntKind.u64 (Int.ofNat 0),SV.int IntKind.u64 (Int.ofNat 0),SV.int IntKind.u64 (Int.ofNat 0),SV.int IntKind.u64 (Int.ofNat 0),SV.int IntKind.i64 (Int.ofNat 0),SV.int IntKind.i64 (Int.ofNat 0)] [(0,1,false),(1,9,true),(10,1,false)] none),
 (155,TI.struct 11 [SV.nils,SV.bool false,SV.bool false,SV.int IntKind.u64 (Int.ofNat 0),SV.int IntKind.u64 (Int.ofNat 0),SV.int IntKind.u64 (Int.ofNat 0),SV.int IntKind.u64 (Int.ofNat 0),SV.int IntKind.u64 (Int.ofNat 0),SV.int IntKind.u64 (Int.ofNat 0),SV.int IntKind.i64 (Int.ofNat 0),SV.int IntKind.i64 (Int.ofNat 0)] [(0,1,false),(1,9,true),(10,1,false)] none),
 (161,TI.scal (SV.int IntKind.u64 (Int.ofNat 0))),
 (173,TI.scal SV.nilp),
 (174,TI.struct 3 [SV.int IntKind.i64 (Int.ofNat 0),SV.nils,SV.nils] [(0,1,false),(1,1,false),(2,1,false)] none),
 (175,TI.struct 3 [SV.int IntKind.i64 (Int.ofNat 0),SV.nils,SV.nils] [(0,1,false),(1,1,false),(2,1,false)] none),
 (191,TI.struct 2 [SV.int IntKind.u64 (Int.ofNat 0),SV.int IntKind.u64 (Int.ofNat 0)] [(0,1,false),(1,1,false)] (some [CK.int IntKind.u64,CK.int IntKind.u64])),
 (192,TI.struct 2 [SV.int IntKind.u64 (Int.ofNat 0),SV.int IntKind.u64 (Int.ofNat 0)] [(0,1,false),(1,1,false)] (some [CK.int IntKind.u64,CK.int IntKind.u64])),
 (199,TI.struct 3 [SV.int IntKind.i64 (Int.ofNat 0),SV.int IntKind.i64 (Int.ofNat 0),SV.nils] [(0,1,false),(1,1,false),(2,1,false)] none),
 (200,TI.struct 3 [SV.int IntKind.i64 (Int.ofNat 0),SV.int IntKind.i64 (Int.ofNat 0),SV.nils] [(0,1,false),(1,1,false),(2,1,false)] none),
 (209,TI.scal SV.nilp),
 (213,TI.slice 89 (Ty.int IntKind.i64).sl 24),
 (214,TI.struct 4 [SV.nils,SV.nils,SV.nils,SV.nils] [(0,1,false),(1,1,false),(2,1,false),(3,1,false)] none),
 (215,TI.struct 4 [SV.nils,SV.nils,SV.nils,SV.nils] [(0,1,false),(1,1,false),(2,1,false),(3,1,false)] none),
 (227,TI.scal (SV.int IntKind.u32 (Int.ofNat 0))),
 (253,TI.map ((Ty.int IntKind.i64).pair ((Ty.int IntKind.i64).pair (Ty.int IntKind.i64))) (Ty.int IntKind.i64)),
 (259,TI.slice 5 (Ty.int IntKind.u8) 1),
 (265,TI.scal (SV.int IntKind.i64 (Int.ofNat 0))),
 (284,TI.scal (SV.int IntKind.u64 (Int.ofNat 0))),
 (294,TI.slice 29 (Ty.int IntKind.u64).sl 24)]
def tbTypes:List TypeId:=[2,3,4,5,9,13,21,22,23,24,25,26,27,28,29,30,31,32,33,34,35,39,40,41,42,47,48,50,55,56,78,79,80,81,89,90,91,101,135,152,154,155,161,173,174,175,191,192,199,200,209,213,214,215,227,253,259,265,284,294]
theorem tbOk:TabOk Tryz.prog tb:=mkTab_ok (Ts:=tbTypes) (by kernel_rfl)
theorem mixed:Tryz.prog.follows .mixedOrders=true:=Tryz.checked.mixed
@[reducible] def N17:FuncId:=67
noncomputable abbrev F17:Func:=Tryz.f67
theorem H17:Tryz.prog.funcs[N17]? =some F17:=Tryz.func67
@[reducible] def N19:FuncId:=111
noncomputable abbrev F19:Func:=Tryz.f111
theorem H19:Tryz.prog.funcs[N19]? =some F19:=Tryz.func111
@[reducible] def N20:FuncId:=113
noncomputable abbrev F20:Func:=Tryz.f113
theorem H20:Tryz.prog.funcs[N20]? =some F20:=Tryz.func113
@[reducible] def N22:FuncId:=141
noncomputable abbrev F22:Func:=Tryz.f141
theorem H22:Tryz.prog.funcs[N22]? =some F22:=Tryz.func141
@[reducible] def N44:FuncId:=97
noncomputable abbrev F44:Func:=Tryz.f97
theorem H44:Tryz.prog.funcs[N44]? =some F44:=Tryz.func97
@[reducible] def N45:FuncId:=126
noncomputable abbrev F45:Func:=Tryz.f126
theorem H45:Tryz.prog.funcs[N45]? =some F45:=Tryz.func126
@[reducible] def N46:FuncId:=127
noncomputable abbrev F46:Func:=Tryz.f127
theorem H46:Tryz.prog.funcs[N46]? =some F46:=Tryz.func127
@[reducible] def N47:FuncId:=65
noncomputable abbrev F47:Func:=Tryz.f65
theorem H47:Tryz.prog.funcs[N47]? =some F47:=Tryz.func65
@[reducible] def N49:FuncId:=191
noncomputable abbrev F49:Func:=Tryz.f191
theorem H49:Tryz.prog.funcs[N49]? =some F49:=Tryz.func191
@[reducible] def N53:FuncId:=219
noncomputable abbrev F53:Func:=Tryz.f219
theorem H53:Tryz.prog.funcs[N53]? =some F53:=Tryz.func219
@[reducible] def N67:FuncId:=165
noncomputable abbrev F67:Func:=Tryz.f165
theorem H67:Tryz.prog.funcs[N67]? =some F67:=Tryz.func165
@[reducible] def N74:FuncId:=306
noncomputable abbrev F74:Func:=Tryz.f306
theorem H74:Tryz.prog.funcs[N74]? =some F74:=Tryz.func306
@[reducible] def N84:FuncId:=200
noncomputable abbrev F84:Func:=Tryz.f200
theorem H84:Tryz.prog.funcs[N84]? =some F84:=Tryz.func200
@[reducible] def N85:FuncId:=174
noncomputable abbrev F85:Func:=Tryz.f174
theorem H85:Tryz.prog.funcs[N85]? =some F85:=Tryz.func174
@[reducible] def N86:FuncId:=175
noncomputable abbrev F86:Func:=Tryz.f175
theorem H86:Tryz.prog.funcs[N86]? =some F86:=Tryz.func175
@[reducible] def N87:FuncId:=201
noncomputable abbrev F87:Func:=Tryz.f201
theorem H87:Tryz.prog.funcs[N87]? =some F87:=Tryz.func201
@[reducible] def N88:FuncId:=250
noncomputable abbrev F88:Func:=Tryz.f250
theorem H88:Tryz.prog.funcs[N88]? =some F88:=Tryz.func250
@[reducible] def N92:FuncId:=256
noncomputable abbrev F92:Func:=Tryz.f256
theorem H92:Tryz.prog.funcs[N92]? =some F92:=Tryz.func256
@[reducible] def N101:FuncId:=234
noncomputable abbrev F101:Func:=Tryz.f234
theorem H101:Tryz.prog.funcs[N101]? =some F101:=Tryz.func234
@[reducible] def N103:FuncId:=255
noncomputable abbrev F103:Func:=Tryz.f255
theorem H103:Tryz.prog.funcs[N103]? =some F103:=Tryz.func255
@[reducible] def N104:FuncId:=287
noncomputable abbrev F104:Func:=Tryz.f287
theorem H104:Tryz.prog.funcs[N104]? =some F104:=Tryz.func287
@[reducible] def N106:FuncId:=290
noncomputable abbrev F106:Func:=Tryz.f290
theorem H106:Tryz.prog.funcs[N106]? =some F106:=Tryz.func290
@[reducible] def N119:FuncId:=262
noncomputable abbrev F119:Func:=Tryz.f262
theorem H119:Tryz.prog.funcs[N119]? =some F119:=Tryz.func262
@[reducible] def N121:FuncId:=307
noncomputable abbrev F121:Func:=Tryz.f307
theorem H121:Tryz.prog.funcs[N121]? =some F121:=Tryz.func307
noncomputable abbrev F310:Func:=Tryz.f82
@[reducible] def N311:FuncId:=217
noncomputable abbrev F311:Func:=Tryz.f217
theorem H311:Tryz.prog.funcs[N311]? =some F311:=Tryz.func217
@[reducible] def N318:FuncId:=61
noncomputable abbrev F318:Func:=Tryz.f61
theorem H318:Tryz.prog.funcs[N318]? =some F318:=Tryz.func61
@[reducible] def N320:FuncId:=66
noncomputable abbrev F320:Func:=Tryz.f66
theorem H320:Tryz.prog.funcs[N320]? =some F320:=Tryz.func66
@[reducible] def N322:FuncId:=32
noncomputable abbrev F322:Func:=Tryz.f32
theorem H322:Tryz.prog.funcs[N322]? =some F322:=Tryz.func32
@[reducible] def N323:FuncId:=49
noncomputable abbrev F323:Func:=Tryz.f49
theorem H323:Tryz.prog.funcs[N323]? =some F323:=Tryz.func49
@[reducible] def N326:FuncId:=163
@[reducible] def N327:FuncId:=120
noncomputable abbrev F327:Func:=Tryz.f120
theorem H327:Tryz.prog.funcs[N327]? =some F327:=Tryz.func120
@[reducible] def N328:FuncId:=235
noncomputable abbrev F328:Func:=Tryz.f235
theorem H328:Tryz.prog.funcs[N328]? =some F328:=Tryz.func235
@[reducible] def N329:FuncId:=236
noncomputable abbrev F329:Func:=Tryz.f236
theorem H329:Tryz.prog.funcs[N329]? =some F329:=Tryz.func236
@[reducible] def N330:FuncId:=220
noncomputable abbrev F330:Func:=Tryz.f220
theorem H330:Tryz.prog.funcs[N330]? =some F330:=Tryz.func220
@[reducible] def N339:FuncId:=63
noncomputable abbrev F339:Func:=Tryz.f63
theorem H339:Tryz.prog.funcs[N339]? =some F339:=Tryz.func63
@[reducible] def N341:FuncId:=86
noncomputable abbrev F341:Func:=Tryz.f86
theorem H341:Tryz.prog.funcs[N341]? =some F341:=Tryz.func86
@[reducible] def N342:FuncId:=87
noncomputable abbrev F342:Func:=Tryz.f87
theorem H342:Tryz.prog.funcs[N342]? =some F342:=Tryz.func87
@[reducible] def N346:FuncId:=83
noncomputable abbrev F346:Func:=Tryz.f83
theorem H346:Tryz.prog.funcs[N346]? =some F346:=Tryz.func83
@[reducible] def N348:FuncId:=77
noncomputable abbrev F348:Func:=Tryz.f77
theorem H348:Tryz.prog.funcs[N348]? =some F348:=Tryz.func77
@[reducible] def N351:FuncId:=122
noncomputable abbrev F351:Func:=Tryz.f122
theorem H351:Tryz.prog.funcs[N351]? =some F351:=Tryz.func122
@[reducible] def N352:FuncId:=123
noncomputable abbrev F352:Func:=Tryz.f123
theorem H352:Tryz.prog.funcs[N352]? =some F352:=Tryz.func123
@[reducible] def N353:FuncId:=124
noncomputable abbrev F353:Func:=Tryz.f124
theorem H353:Tryz.prog.funcs[N353]? =some F353:=Tryz.func124
@[reducible] def N354:FuncId:=125
noncomputable abbrev F354:Func:=Tryz.f125
theorem H354:Tryz.prog.funcs[N354]? =some F354:=Tryz.func125
@[reducible] def N356:FuncId:=78
noncomputable abbrev F356:Func:=Tryz.f78
theorem H356:Tryz.prog.funcs[N356]? =some F356:=Tryz.func78
@[reducible] def N357:FuncId:=79
noncomputable abbrev F357:Func:=Tryz.f79
theorem H357:Tryz.prog.funcs[N357]? =some F357:=Tryz.func79
@[reducible] def N358:FuncId:=80
noncomputable abbrev F358:Func:=Tryz.f80
theorem H358:Tryz.prog.funcs[N358]? =some F358:=Tryz.func80
@[reducible] def N359:FuncId:=81
noncomputable abbrev F359:Func:=Tryz.f81
theorem H359:Tryz.prog.funcs[N359]? =some F359:=Tryz.func81
@[reducible] def N360:FuncId:=110
noncomputable abbrev F360:Func:=Tryz.f110
theorem H360:Tryz.prog.funcs[N360]? =some F360:=Tryz.func110
@[reducible] def N361:FuncId:=261
noncomputable abbrev F361:Func:=Tryz.f261
theorem H361:Tryz.prog.funcs[N361]? =some F361:=Tryz.func261
@[reducible] def N362:FuncId:=229
noncomputable abbrev F362:Func:=Tryz.f229
theorem H362:Tryz.prog.funcs[N362]? =some F362:=Tryz.func229
@[reducible] def N363:FuncId:=157
noncomputable abbrev F363:Func:=Tryz.f157
theorem H363:Tryz.prog.funcs[N363]? =some F363:=Tryz.func157
@[reducible] def N365:FuncId:=156
noncomputable abbrev F365:Func:=Tryz.f156
theorem H365:Tryz.prog.funcs[N365]? =some F365:=Tryz.func156
@[reducible] def N366:FuncId:=148
noncomputable abbrev F366:Func:=Tryz.f148
theorem H366:Tryz.prog.funcs[N366]? =some F366:=Tryz.func148
@[reducible] def N368:FuncId:=237
noncomputable abbrev F368:Func:=Tryz.f237
theorem H368:Tryz.prog.funcs[N368]? =some F368:=Tryz.func237
@[reducible] def N369:FuncId:=238
noncomputable abbrev F369:Func:=Tryz.f238
theorem H369:Tryz.prog.funcs[N369]? =some F369:=Tryz.func238
@[reducible] def N375:FuncId:=166
noncomputable abbrev F375:Func:=Tryz.f166
theorem H375:Tryz.prog.funcs[N375]? =some F375:=Tryz.func166
@[reducible] def N377:FuncId:=164
noncomputable abbrev F377:Func:=Tryz.f164
theorem H377:Tryz.prog.funcs[N377]? =some F377:=Tryz.func164
@[reducible] def N385:FuncId:=199
noncomputable abbrev F385:Func:=Tryz.f199
theorem H385:Tryz.prog.funcs[N385]? =some F385:=Tryz.func199
@[reducible] def N387:FuncId:=149
noncomputable abbrev F387:Func:=Tryz.f149
theorem H387:Tryz.prog.funcs[N387]? =some F387:=Tryz.func149
@[reducible] def N388:FuncId:=150
noncomputable abbrev F388:Func:=Tryz.f150
theorem H388:Tryz.prog.funcs[N388]? =some F388:=Tryz.func150
@[reducible] def N389:FuncId:=151
noncomputable abbrev F389:Func:=Tryz.f151
theorem H389:Tryz.prog.funcs[N389]? =some F389:=Tryz.func151
@[reducible] def N390:FuncId:=152
noncomputable abbrev F390:Func:=Tryz.f152
theorem H390:Tryz.prog.funcs[N390]? =some F390:=Tryz.func152
@[reducible] def N391:FuncId:=153
noncomputable abbrev F391:Func:=Tryz.f153
theorem H391:Tryz.prog.funcs[N391]? =some F391:=Tryz.func153
@[reducible] def N392:FuncId:=154
noncomputable abbrev F392:Func:=Tryz.f154
theorem H392:Tryz.prog.funcs[N392]? =some F392:=Tryz.func154
@[reducible] def N393:FuncId:=155
noncomputable abbrev F393:Func:=Tryz.f155
theorem H393:Tryz.prog.funcs[N393]? =some F393:=Tryz.func155
@[reducible] def N394:FuncId:=158
noncomputable abbrev F394:Func:=Tryz.f158
theorem H394:Tryz.prog.funcs[N394]? =some F394:=Tryz.func158
@[reducible] def N395:FuncId:=159
noncomputable abbrev F395:Func:=Tryz.f159
theorem H395:Tryz.prog.funcs[N395]? =some F395:=Tryz.func159
@[reducible] def N396:FuncId:=160
noncomputable abbrev F396:Func:=Tryz.f160
theorem H396:Tryz.prog.funcs[N396]? =some F396:=Tryz.func160
@[reducible] def N397:FuncId:=161
noncomputable abbrev F397:Func:=Tryz.f161
theorem H397:Tryz.prog.funcs[N397]? =some F397:=Tryz.func161
@[reducible] def N398:FuncId:=162
noncomputable abbrev F398:Func:=Tryz.f162
theorem H398:Tryz.prog.funcs[N398]? =some F398:=Tryz.func162
@[reducible] def N399:FuncId:=228
noncomputable abbrev F399:Func:=Tryz.f228
theorem H399:Tryz.prog.funcs[N399]? =some F399:=Tryz.func228
@[reducible] def N400:FuncId:=173
noncomputable abbrev F400:Func:=Tryz.f173
theorem H400:Tryz.prog.funcs[N400]? =some F400:=Tryz.func173
@[reducible] def N401:FuncId:=241
noncomputable abbrev F401:Func:=Tryz.f241
theorem H401:Tryz.prog.funcs[N401]? =some F401:=Tryz.func241
@[reducible] def N402:FuncId:=264
noncomputable abbrev F402:Func:=Tryz.f264
theorem H402:Tryz.prog.funcs[N402]? =some F402:=Tryz.func264
@[reducible] def N412:FuncId:=221
noncomputable abbrev F412:Func:=Tryz.f221
theorem H412:Tryz.prog.funcs[N412]? =some F412:=Tryz.func221
@[reducible] def N413:FuncId:=222
noncomputable abbrev F413:Func:=Tryz.f222
theorem H413:Tryz.prog.funcs[N413]? =some F413:=Tryz.func222
@[reducible] def N414:FuncId:=223
noncomputable abbrev F414:Func:=Tryz.f223
theorem H414:Tryz.prog.funcs[N414]? =some F414:=Tryz.func223
@[reducible] def N415:FuncId:=224
noncomputable abbrev F415:Func:=Tryz.f224
theorem H415:Tryz.prog.funcs[N415]? =some F415:=Tryz.func224
@[reducible] def N416:FuncId:=225
noncomputable abbrev F416:Func:=Tryz.f225
theorem H416:Tryz.prog.funcs[N416]? =some F416:=Tryz.func225
@[reducible] def N419:FuncId:=230
noncomputable abbrev F419:Func:=Tryz.f230
theorem H419:Tryz.prog.funcs[N419]? =some F419:=Tryz.func230
@[reducible] def N420:FuncId:=231
noncomputable abbrev F420:Func:=Tryz.f231
theorem H420:Tryz.prog.funcs[N420]? =some F420:=Tryz.func231
@[reducible] def N421:FuncId:=232
noncomputable abbrev F421:Func:=Tryz.f232
theorem H421:Tryz.prog.funcs[N421]? =some F421:=Tryz.func232
@[reducible] def N422:FuncId:=294
noncomputable abbrev F422:Func:=Tryz.f294
theorem H422:Tryz.prog.funcs[N422]? =some F422:=Tryz.func294
@[reducible] def N423:FuncId:=295
noncomputable abbrev F423:Func:=Tryz.f295
theorem H423:Tryz.prog.funcs[N423]? =some F423:=Tryz.func295
@[reducible] def N427:FuncId:=263
noncomputable abbrev F427:Func:=Tryz.f263
theorem H427:Tryz.prog.funcs[N427]? =some F427:=Tryz.func263
@[reducible] def N428:FuncId:=112
noncomputable abbrev F428:Func:=Tryz.f112
theorem H428:Tryz.prog.funcs[N428]? =some F428:=Tryz.func112
@[reducible] def N438:FuncId:=274
noncomputable abbrev F438:Func:=Tryz.f274
theorem H438:Tryz.prog.funcs[N438]? =some F438:=Tryz.func274
@[reducible] def N439:FuncId:=292
noncomputable abbrev F439:Func:=Tryz.f292
theorem H439:Tryz.prog.funcs[N439]? =some F439:=Tryz.func292
@[reducible] def N440:FuncId:=293
noncomputable abbrev F440:Func:=Tryz.f293
theorem H440:Tryz.prog.funcs[N440]? =some F440:=Tryz.func293
@[reducible] def N446:FuncId:=309
noncomputable abbrev F446:Func:=Tryz.f309
theorem H446:Tryz.prog.funcs[N446]? =some F446:=Tryz.func309
@[reducible] def N809:FuncId:=9
noncomputable abbrev F809:Func:=Tryz.f9
theorem H809:Tryz.prog.funcs[N809]? =some F809:=Tryz.func9
@[reducible] def N814:FuncId:=14
noncomputable abbrev F814:Func:=Tryz.f14
theorem H814:Tryz.prog.funcs[N814]? =some F814:=Tryz.func14
@[reducible] def N817:FuncId:=17
noncomputable abbrev F817:Func:=Tryz.f17
theorem H817:Tryz.prog.funcs[N817]? =some F817:=Tryz.func17
@[reducible] def N822:FuncId:=22
noncomputable abbrev F822:Func:=Tryz.f22
theorem H822:Tryz.prog.funcs[N822]? =some F822:=Tryz.func22
@[reducible] def N824:FuncId:=24
noncomputable abbrev F824:Func:=Tryz.f24
theorem H824:Tryz.prog.funcs[N824]? =some F824:=Tryz.func24
@[reducible] def N826:FuncId:=26
noncomputable abbrev F826:Func:=Tryz.f26
theorem H826:Tryz.prog.funcs[N826]? =some F826:=Tryz.func26
@[reducible] def N836:FuncId:=36
noncomputable abbrev F836:Func:=Tryz.f36
theorem H836:Tryz.prog.funcs[N836]? =some F836:=Tryz.func36
@[reducible] def N837:FuncId:=37
noncomputable abbrev F837:Func:=Tryz.f37
theorem H837:Tryz.prog.funcs[N837]? =some F837:=Tryz.func37
@[reducible] def N838:FuncId:=38
noncomputable abbrev F838:Func:=Tryz.f38
theorem H838:Tryz.prog.funcs[N838]? =some F838:=Tryz.func38
@[reducible] def N839:FuncId:=39
noncomputable abbrev F839:Func:=Tryz.f39
theorem H839:Tryz.prog.funcs[N839]? =some F839:=Tryz.func39
@[reducible] def N851:FuncId:=51
noncomputable abbrev F851:Func:=Tryz.f51
theorem H851:Tryz.prog.funcs[N851]? =some F851:=Tryz.func51
@[reducible] def N852:FuncId:=52
noncomputable abbrev F852:Func:=Tryz.f52
theorem H852:Tryz.prog.funcs[N852]? =some F852:=Tryz.func52
@[reducible] def N853:FuncId:=53
noncomputable abbrev F853:Func:=Tryz.f53
theorem H853:Tryz.prog.funcs[N853]? =some F853:=Tryz.func53
@[reducible] def N854:FuncId:=54
noncomputable abbrev F854:Func:=Tryz.f54
theorem H854:Tryz.prog.funcs[N854]? =some F854:=Tryz.func54
@[reducible] def N858:FuncId:=58
noncomputable abbrev F858:Func:=Tryz.f58
theorem H858:Tryz.prog.funcs[N858]? =some F858:=Tryz.func58
@[reducible] def N859:FuncId:=59
noncomputable abbrev F859:Func:=Tryz.f59
theorem H859:Tryz.prog.funcs[N859]? =some F859:=Tryz.func59
@[reducible] def N860:FuncId:=60
noncomputable abbrev F860:Func:=Tryz.f60
theorem H860:Tryz.prog.funcs[N860]? =some F860:=Tryz.func60
@[reducible] def N862:FuncId:=62
noncomputable abbrev F862:Func:=Tryz.f62
theorem H862:Tryz.prog.funcs[N862]? =some F862:=Tryz.func62
@[reducible] def N864:FuncId:=64
noncomputable abbrev F864:Func:=Tryz.f64
theorem H864:Tryz.prog.funcs[N864]? =some F864:=Tryz.func64
@[reducible] def N871:FuncId:=71
noncomputable abbrev F871:Func:=Tryz.f71
theorem H871:Tryz.prog.funcs[N871]? =some F871:=Tryz.func71
@[reducible] def N890:FuncId:=90
noncomputable abbrev F890:Func:=Tryz.f90
theorem H890:Tryz.prog.funcs[N890]? =some F890:=Tryz.func90
@[reducible] def N891:FuncId:=91
noncomputable abbrev F891:Func:=Tryz.f91
theorem H891:Tryz.prog.funcs[N891]? =some F891:=Tryz.func91
@[reducible] def N892:FuncId:=92
noncomputable abbrev F892:Func:=Tryz.f92
theorem H892:Tryz.prog.funcs[N892]? =some F892:=Tryz.func92
@[reducible] def N893:FuncId:=93
noncomputable abbrev F893:Func:=Tryz.f93
theorem H893:Tryz.prog.funcs[N893]? =some F893:=Tryz.func93
@[reducible] def N894:FuncId:=94
noncomputable abbrev F894:Func:=Tryz.f94
theorem H894:Tryz.prog.funcs[N894]? =some F894:=Tryz.func94
@[reducible] def N895:FuncId:=95
noncomputable abbrev F895:Func:=Tryz.f95
theorem H895:Tryz.prog.funcs[N895]? =some F895:=Tryz.func95
@[reducible] def N896:FuncId:=96
noncomputable abbrev F896:Func:=Tryz.f96
theorem H896:Tryz.prog.funcs[N896]? =some F896:=Tryz.func96
@[reducible] def N921:FuncId:=121
noncomputable abbrev F921:Func:=Tryz.f121
theorem H921:Tryz.prog.funcs[N921]? =some F921:=Tryz.func121
@[reducible] def N934:FuncId:=134
noncomputable abbrev F934:Func:=Tryz.f134
theorem H934:Tryz.prog.funcs[N934]? =some F934:=Tryz.func134
@[reducible] def N970:FuncId:=170
noncomputable abbrev F970:Func:=Tryz.f170
theorem H970:Tryz.prog.funcs[N970]? =some F970:=Tryz.func170
@[reducible] def N971:FuncId:=171
noncomputable abbrev F971:Func:=Tryz.f171
theorem H971:Tryz.prog.funcs[N971]? =some F971:=Tryz.func171
@[reducible] def N972:FuncId:=172
noncomputable abbrev F972:Func:=Tryz.f172
theorem H972:Tryz.prog.funcs[N972]? =some F972:=Tryz.func172
@[reducible] def N1009:FuncId:=209
noncomputable abbrev F1009:Func:=Tryz.f209
theorem H1009:Tryz.prog.funcs[N1009]? =some F1009:=Tryz.func209
@[reducible] def N1039:FuncId:=239
noncomputable abbrev F1039:Func:=Tryz.f239
theorem H1039:Tryz.prog.funcs[N1039]? =some F1039:=Tryz.func239
@[reducible] def N1040:FuncId:=240
noncomputable abbrev F1040:Func:=Tryz.f240
theorem H1040:Tryz.prog.funcs[N1040]? =some F1040:=Tryz.func240
@[reducible] def N1075:FuncId:=275
noncomputable abbrev F1075:Func:=Tryz.f275
theorem H1075:Tryz.prog.funcs[N1075]? =some F1075:=Tryz.func275
@[reducible] def N1076:FuncId:=276
noncomputable abbrev F1076:Func:=Tryz.f276
theorem H1076:Tryz.prog.funcs[N1076]? =some F1076:=Tryz.func276
@[reducible] def N1101:FuncId:=301
noncomputable abbrev F1101:Func:=Tryz.f301
theorem H1101:Tryz.prog.funcs[N1101]? =some F1101:=Tryz.func301
end Go.AM.Seat
