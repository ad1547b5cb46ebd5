/- The seat: its table of types, and its numbers of functions. -/
import Derived.Test.YtnkdeglckmogcaaAmTab
import Derived.Test.YtnkdeglckmogcaaChecked
import Derived.Eval
import Derived.KernelRfl
set_option linter.unusedVariables false
namespace Go.AM.Seat
open Go Go.AM Go.Proofs

def tb : Tab := [
  (3, TI.scal (SV.int IntKind.i64 (Int.ofNat 0))),
  (4, TI.scal (SV.bool false)),
  (42, TI.struct 3 [SV.int IntKind.i64 (Int.ofNat 0), SV.int IntKind.i64 (Int.ofNat 0), SV.int IntKind.i64 (Int.ofNat 0)] [(0, 1, false), (1, 1, false), (2, 1, false)] (some [CK.int IntKind.i64, CK.int IntKind.i64, CK.int IntKind.i64])),
  (45, TI.slice 3 (Ty.int IntKind.i64) 8),
  (22, TI.slice 42 ((Ty.int IntKind.i64).pair ((Ty.int IntKind.i64).pair (Ty.int IntKind.i64))) 24),
  (25, TI.array 2 [SV.int IntKind.u64 (Int.ofNat 0), SV.int IntKind.u64 (Int.ofNat 0)] (some [CK.int IntKind.u64, CK.int IntKind.u64])),
  (29, TI.struct 9 [SV.bool false, SV.bool false, SV.int IntKind.u64 (Int.ofNat 0), SV.int IntKind.u64 (Int.ofNat 0), SV.int IntKind.u64 (Int.ofNat 0), SV.int IntKind.u64 (Int.ofNat 0), SV.int IntKind.u64 (Int.ofNat 0), SV.int IntKind.u64 (Int.ofNat 0), SV.int IntKind.i64 (Int.ofNat 0)] [(0, 1, false), (1, 1, false), (2, 2, true), (4, 4, true), (8, 1, false)] (some [CK.bool, CK.bool, CK.int IntKind.u64, CK.int IntKind.u64, CK.int IntKind.u64, CK.int IntKind.u64, CK.int IntKind.u64, CK.int IntKind.u64, CK.int IntKind.i64])),
  (27, TI.struct 4 [SV.int IntKind.u64 (Int.ofNat 0), SV.int IntKind.u64 (Int.ofNat 0), SV.int IntKind.u64 (Int.ofNat 0), SV.int IntKind.u64 (Int.ofNat 0)] [(0, 2, true), (2, 2, true)] (some [CK.int IntKind.u64, CK.int IntKind.u64, CK.int IntKind.u64, CK.int IntKind.u64])),
  (2, TI.scal (SV.int IntKind.i64 (Int.ofNat 0))),
  (5, TI.scal (SV.int IntKind.u8 (Int.ofNat 0))),
  (9, TI.scal (SV.str ByteArray.empty)),
  (13, TI.struct 2 [SV.str ByteArray.empty, SV.int IntKind.u64 (Int.ofNat 0)] [(0, 1, false), (1, 1, false)] none),
  (21, TI.scal (SV.int IntKind.i32 (Int.ofNat 0))),
  (23, TI.scal (SV.int IntKind.u64 (Int.ofNat 0))),
  (24, TI.array 2 [SV.int IntKind.u64 (Int.ofNat 0), SV.int IntKind.u64 (Int.ofNat 0)] (some [CK.int IntKind.u64, CK.int IntKind.u64])),
  (26, TI.struct 4 [SV.int IntKind.u64 (Int.ofNat 0), SV.int IntKind.u64 (Int.ofNat 0), SV.int IntKind.u64 (Int.ofNat 0), SV.int IntKind.u64 (Int.ofNat 0)] [(0, 2, true), (2, 2, true)] (some [CK.int IntKind.u64, CK.int IntKind.u64, CK.int IntKind.u64, CK.int IntKind.u64])),
  (28, TI.struct 9 [SV.bool false, SV.bool false, SV.int IntKind.u64 (Int.ofNat 0), SV.int IntKind.u64 (Int.ofNat 0), SV.int IntKind.u64 (Int.ofNat 0), SV.int IntKind.u64 (Int.ofNat 0), SV.int IntKind.u64 (Int.ofNat 0), SV.int IntKind.u64 (Int.ofNat 0), SV.int IntKind.i64 (Int.ofNat 0)] [(0, 1, false), (1, 1, false), (2, 2, true), (4, 4, true), (8, 1, false)] (some [CK.bool, CK.bool, CK.int IntKind.u64, CK.int IntKind.u64, CK.int IntKind.u64, CK.int IntKind.u64, CK.int IntKind.u64, CK.int IntKind.u64, CK.int IntKind.i64])),
  (31, TI.scal (SV.int IntKind.i64 (Int.ofNat 0))),
  (41, TI.struct 3 [SV.int IntKind.i64 (Int.ofNat 0), SV.int IntKind.i64 (Int.ofNat 0), SV.int IntKind.i64 (Int.ofNat 0)] [(0, 1, false), (1, 1, false), (2, 1, false)] (some [CK.int IntKind.i64, CK.int IntKind.i64, CK.int IntKind.i64])),
  (55, TI.slice 4 Ty.bool 1),
  (63, TI.slice 25 ((Ty.int IntKind.u64).pair (Ty.int IntKind.u64)) 16),
  (78, TI.slice 45 (Ty.int IntKind.i64).sl 24),
  (81, TI.scal SV.nilp),
  (85, TI.struct 4 [SV.nils, SV.nils, SV.nils, SV.nils] [(0, 1, false), (1, 1, false), (2, 1, false), (3, 1, false)] none),
  (86, TI.struct 4 [SV.nils, SV.nils, SV.nils, SV.nils] [(0, 1, false), (1, 1, false), (2, 1, false), (3, 1, false)] none),
  (93, TI.struct 0 [] [] (some [])),
  (94, TI.map (Ty.int IntKind.i64) Ty.unit),
  (99, TI.map (Ty.int IntKind.i64) (Ty.bool.pair (Ty.bool.pair (((Ty.int IntKind.u64).pair (Ty.int IntKind.u64)).pair ((((Ty.int IntKind.u64).pair (Ty.int IntKind.u64)).pair ((Ty.int IntKind.u64).pair (Ty.int IntKind.u64))).pair (Ty.int IntKind.i64)))))),
  (101, TI.slice 29 (Ty.bool.pair (Ty.bool.pair (((Ty.int IntKind.u64).pair (Ty.int IntKind.u64)).pair ((((Ty.int IntKind.u64).pair (Ty.int IntKind.u64)).pair ((Ty.int IntKind.u64).pair (Ty.int IntKind.u64))).pair (Ty.int IntKind.i64))))) 64),
  (107, TI.map ((Ty.int IntKind.i64).pair ((Ty.int IntKind.i64).pair (Ty.int IntKind.i64))) (Ty.int IntKind.i64)),
  (115, TI.scal (SV.int IntKind.u64 (Int.ofNat 0))),
  (124, TI.slice 5 (Ty.int IntKind.u8) 1),
  (127, TI.scal (SV.int IntKind.i64 (Int.ofNat 0))),
  (134, TI.scal (SV.int IntKind.u32 (Int.ofNat 0))),
  (137, TI.scal (SV.int IntKind.u64 (Int.ofNat 0)))]
def tbTypes : List TypeId := [3, 4, 42, 45, 22, 25, 29, 27, 2, 5, 9, 13, 21, 23, 24, 26, 28, 31, 41, 55, 63, 78, 81, 85, 86, 93, 94, 99, 101, 107, 115, 124, 127, 134, 137]

theorem tbOk : TabOk Try.prog tb := mkTab_ok (Ts := tbTypes) (by kernel_rfl)
theorem mixed : Try.prog.follows .mixedOrders = true := Try.checked.mixed

@[reducible] def N3 : FuncId := 3
noncomputable abbrev F3 : Func := Try.f3
theorem H3 : Try.prog.funcs[N3]? = some F3 := Try.func3
@[reducible] def N4 : FuncId := 4
noncomputable abbrev F4 : Func := Try.f4
theorem H4 : Try.prog.funcs[N4]? = some F4 := Try.func4
@[reducible] def N5 : FuncId := 5
noncomputable abbrev F5 : Func := Try.f5
theorem H5 : Try.prog.funcs[N5]? = some F5 := Try.func5
@[reducible] def N6 : FuncId := 6
noncomputable abbrev F6 : Func := Try.f6
theorem H6 : Try.prog.funcs[N6]? = some F6 := Try.func6
@[reducible] def N7 : FuncId := 7
noncomputable abbrev F7 : Func := Try.f7
theorem H7 : Try.prog.funcs[N7]? = some F7 := Try.func7
@[reducible] def N8 : FuncId := 8
noncomputable abbrev F8 : Func := Try.f8
theorem H8 : Try.prog.funcs[N8]? = some F8 := Try.func8
@[reducible] def N9 : FuncId := 9
noncomputable abbrev F9 : Func := Try.f9
theorem H9 : Try.prog.funcs[N9]? = some F9 := Try.func9
@[reducible] def N10 : FuncId := 10
noncomputable abbrev F10 : Func := Try.f10
theorem H10 : Try.prog.funcs[N10]? = some F10 := Try.func10
@[reducible] def N11 : FuncId := 11
noncomputable abbrev F11 : Func := Try.f11
theorem H11 : Try.prog.funcs[N11]? = some F11 := Try.func11
@[reducible] def N12 : FuncId := 12
noncomputable abbrev F12 : Func := Try.f12
theorem H12 : Try.prog.funcs[N12]? = some F12 := Try.func12
@[reducible] def N13 : FuncId := 13
noncomputable abbrev F13 : Func := Try.f13
theorem H13 : Try.prog.funcs[N13]? = some F13 := Try.func13
@[reducible] def N14 : FuncId := 14
noncomputable abbrev F14 : Func := Try.f14
theorem H14 : Try.prog.funcs[N14]? = some F14 := Try.func14
@[reducible] def N15 : FuncId := 15
noncomputable abbrev F15 : Func := Try.f15
theorem H15 : Try.prog.funcs[N15]? = some F15 := Try.func15
@[reducible] def N16 : FuncId := 16
noncomputable abbrev F16 : Func := Try.f16
theorem H16 : Try.prog.funcs[N16]? = some F16 := Try.func16
@[reducible] def N17 : FuncId := 17
noncomputable abbrev F17 : Func := Try.f17
theorem H17 : Try.prog.funcs[N17]? = some F17 := Try.func17
@[reducible] def N18 : FuncId := 18
noncomputable abbrev F18 : Func := Try.f18
theorem H18 : Try.prog.funcs[N18]? = some F18 := Try.func18
@[reducible] def N19 : FuncId := 19
noncomputable abbrev F19 : Func := Try.f19
theorem H19 : Try.prog.funcs[N19]? = some F19 := Try.func19
@[reducible] def N20 : FuncId := 20
noncomputable abbrev F20 : Func := Try.f20
theorem H20 : Try.prog.funcs[N20]? = some F20 := Try.func20
@[reducible] def N21 : FuncId := 21
noncomputable abbrev F21 : Func := Try.f21
theorem H21 : Try.prog.funcs[N21]? = some F21 := Try.func21
@[reducible] def N22 : FuncId := 22
noncomputable abbrev F22 : Func := Try.f22
theorem H22 : Try.prog.funcs[N22]? = some F22 := Try.func22
@[reducible] def N23 : FuncId := 23
noncomputable abbrev F23 : Func := Try.f23
theorem H23 : Try.prog.funcs[N23]? = some F23 := Try.func23
@[reducible] def N24 : FuncId := 24
noncomputable abbrev F24 : Func := Try.f24
theorem H24 : Try.prog.funcs[N24]? = some F24 := Try.func24
@[reducible] def N25 : FuncId := 25
noncomputable abbrev F25 : Func := Try.f25
theorem H25 : Try.prog.funcs[N25]? = some F25 := Try.func25
@[reducible] def N26 : FuncId := 26
noncomputable abbrev F26 : Func := Try.f26
theorem H26 : Try.prog.funcs[N26]? = some F26 := Try.func26
@[reducible] def N27 : FuncId := 27
noncomputable abbrev F27 : Func := Try.f27
theorem H27 : Try.prog.funcs[N27]? = some F27 := Try.func27
@[reducible] def N28 : FuncId := 28
noncomputable abbrev F28 : Func := Try.f28
theorem H28 : Try.prog.funcs[N28]? = some F28 := Try.func28
@[reducible] def N29 : FuncId := 29
noncomputable abbrev F29 : Func := Try.f29
theorem H29 : Try.prog.funcs[N29]? = some F29 := Try.func29
@[reducible] def N30 : FuncId := 30
noncomputable abbrev F30 : Func := Try.f30
theorem H30 : Try.prog.funcs[N30]? = some F30 := Try.func30
@[reducible] def N31 : FuncId := 31
noncomputable abbrev F31 : Func := Try.f31
theorem H31 : Try.prog.funcs[N31]? = some F31 := Try.func31
@[reducible] def N32 : FuncId := 32
noncomputable abbrev F32 : Func := Try.f32
theorem H32 : Try.prog.funcs[N32]? = some F32 := Try.func32
@[reducible] def N33 : FuncId := 33
noncomputable abbrev F33 : Func := Try.f33
theorem H33 : Try.prog.funcs[N33]? = some F33 := Try.func33
@[reducible] def N34 : FuncId := 34
noncomputable abbrev F34 : Func := Try.f34
theorem H34 : Try.prog.funcs[N34]? = some F34 := Try.func34
@[reducible] def N35 : FuncId := 35
noncomputable abbrev F35 : Func := Try.f35
theorem H35 : Try.prog.funcs[N35]? = some F35 := Try.func35
@[reducible] def N36 : FuncId := 36
noncomputable abbrev F36 : Func := Try.f36
theorem H36 : Try.prog.funcs[N36]? = some F36 := Try.func36
@[reducible] def N37 : FuncId := 37
noncomputable abbrev F37 : Func := Try.f37
theorem H37 : Try.prog.funcs[N37]? = some F37 := Try.func37
@[reducible] def N38 : FuncId := 38
noncomputable abbrev F38 : Func := Try.f38
theorem H38 : Try.prog.funcs[N38]? = some F38 := Try.func38
@[reducible] def N39 : FuncId := 39
noncomputable abbrev F39 : Func := Try.f39
theorem H39 : Try.prog.funcs[N39]? = some F39 := Try.func39
@[reducible] def N40 : FuncId := 40
noncomputable abbrev F40 : Func := Try.f40
theorem H40 : Try.prog.funcs[N40]? = some F40 := Try.func40
@[reducible] def N41 : FuncId := 41
noncomputable abbrev F41 : Func := Try.f41
theorem H41 : Try.prog.funcs[N41]? = some F41 := Try.func41
@[reducible] def N42 : FuncId := 42
noncomputable abbrev F42 : Func := Try.f42
theorem H42 : Try.prog.funcs[N42]? = some F42 := Try.func42
@[reducible] def N43 : FuncId := 43
noncomputable abbrev F43 : Func := Try.f43
theorem H43 : Try.prog.funcs[N43]? = some F43 := Try.func43
@[reducible] def N44 : FuncId := 44
noncomputable abbrev F44 : Func := Try.f44
theorem H44 : Try.prog.funcs[N44]? = some F44 := Try.func44
@[reducible] def N45 : FuncId := 45
noncomputable abbrev F45 : Func := Try.f45
theorem H45 : Try.prog.funcs[N45]? = some F45 := Try.func45
@[reducible] def N46 : FuncId := 46
noncomputable abbrev F46 : Func := Try.f46
theorem H46 : Try.prog.funcs[N46]? = some F46 := Try.func46
@[reducible] def N47 : FuncId := 47
noncomputable abbrev F47 : Func := Try.f47
theorem H47 : Try.prog.funcs[N47]? = some F47 := Try.func47
@[reducible] def N48 : FuncId := 48
noncomputable abbrev F48 : Func := Try.f48
theorem H48 : Try.prog.funcs[N48]? = some F48 := Try.func48
@[reducible] def N49 : FuncId := 49
noncomputable abbrev F49 : Func := Try.f49
theorem H49 : Try.prog.funcs[N49]? = some F49 := Try.func49
@[reducible] def N50 : FuncId := 50
noncomputable abbrev F50 : Func := Try.f50
theorem H50 : Try.prog.funcs[N50]? = some F50 := Try.func50
@[reducible] def N51 : FuncId := 51
noncomputable abbrev F51 : Func := Try.f51
theorem H51 : Try.prog.funcs[N51]? = some F51 := Try.func51
@[reducible] def N52 : FuncId := 52
noncomputable abbrev F52 : Func := Try.f52
theorem H52 : Try.prog.funcs[N52]? = some F52 := Try.func52
@[reducible] def N53 : FuncId := 53
noncomputable abbrev F53 : Func := Try.f53
theorem H53 : Try.prog.funcs[N53]? = some F53 := Try.func53
@[reducible] def N54 : FuncId := 54
noncomputable abbrev F54 : Func := Try.f54
theorem H54 : Try.prog.funcs[N54]? = some F54 := Try.func54
@[reducible] def N55 : FuncId := 55
noncomputable abbrev F55 : Func := Try.f55
theorem H55 : Try.prog.funcs[N55]? = some F55 := Try.func55
@[reducible] def N56 : FuncId := 56
noncomputable abbrev F56 : Func := Try.f56
theorem H56 : Try.prog.funcs[N56]? = some F56 := Try.func56
@[reducible] def N57 : FuncId := 57
noncomputable abbrev F57 : Func := Try.f57
theorem H57 : Try.prog.funcs[N57]? = some F57 := Try.func57
@[reducible] def N58 : FuncId := 58
noncomputable abbrev F58 : Func := Try.f58
theorem H58 : Try.prog.funcs[N58]? = some F58 := Try.func58
@[reducible] def N59 : FuncId := 59
noncomputable abbrev F59 : Func := Try.f59
theorem H59 : Try.prog.funcs[N59]? = some F59 := Try.func59
@[reducible] def N60 : FuncId := 60
noncomputable abbrev F60 : Func := Try.f60
theorem H60 : Try.prog.funcs[N60]? = some F60 := Try.func60
@[reducible] def N61 : FuncId := 61
noncomputable abbrev F61 : Func := Try.f61
theorem H61 : Try.prog.funcs[N61]? = some F61 := Try.func61
@[reducible] def N62 : FuncId := 62
noncomputable abbrev F62 : Func := Try.f62
theorem H62 : Try.prog.funcs[N62]? = some F62 := Try.func62
@[reducible] def N63 : FuncId := 63
noncomputable abbrev F63 : Func := Try.f63
theorem H63 : Try.prog.funcs[N63]? = some F63 := Try.func63
@[reducible] def N64 : FuncId := 64
noncomputable abbrev F64 : Func := Try.f64
theorem H64 : Try.prog.funcs[N64]? = some F64 := Try.func64
@[reducible] def N65 : FuncId := 65
noncomputable abbrev F65 : Func := Try.f65
theorem H65 : Try.prog.funcs[N65]? = some F65 := Try.func65
@[reducible] def N66 : FuncId := 66
noncomputable abbrev F66 : Func := Try.f66
theorem H66 : Try.prog.funcs[N66]? = some F66 := Try.func66
@[reducible] def N67 : FuncId := 67
noncomputable abbrev F67 : Func := Try.f67
theorem H67 : Try.prog.funcs[N67]? = some F67 := Try.func67
@[reducible] def N68 : FuncId := 68
noncomputable abbrev F68 : Func := Try.f68
theorem H68 : Try.prog.funcs[N68]? = some F68 := Try.func68
@[reducible] def N69 : FuncId := 69
noncomputable abbrev F69 : Func := Try.f69
theorem H69 : Try.prog.funcs[N69]? = some F69 := Try.func69
@[reducible] def N70 : FuncId := 70
noncomputable abbrev F70 : Func := Try.f70
theorem H70 : Try.prog.funcs[N70]? = some F70 := Try.func70
@[reducible] def N71 : FuncId := 71
noncomputable abbrev F71 : Func := Try.f71
theorem H71 : Try.prog.funcs[N71]? = some F71 := Try.func71
@[reducible] def N72 : FuncId := 72
noncomputable abbrev F72 : Func := Try.f72
theorem H72 : Try.prog.funcs[N72]? = some F72 := Try.func72
@[reducible] def N73 : FuncId := 73
noncomputable abbrev F73 : Func := Try.f73
theorem H73 : Try.prog.funcs[N73]? = some F73 := Try.func73
@[reducible] def N74 : FuncId := 74
noncomputable abbrev F74 : Func := Try.f74
theorem H74 : Try.prog.funcs[N74]? = some F74 := Try.func74
@[reducible] def N75 : FuncId := 75
noncomputable abbrev F75 : Func := Try.f75
theorem H75 : Try.prog.funcs[N75]? = some F75 := Try.func75
@[reducible] def N76 : FuncId := 76
noncomputable abbrev F76 : Func := Try.f76
theorem H76 : Try.prog.funcs[N76]? = some F76 := Try.func76
@[reducible] def N77 : FuncId := 77
noncomputable abbrev F77 : Func := Try.f77
theorem H77 : Try.prog.funcs[N77]? = some F77 := Try.func77
@[reducible] def N78 : FuncId := 78
noncomputable abbrev F78 : Func := Try.f78
theorem H78 : Try.prog.funcs[N78]? = some F78 := Try.func78
@[reducible] def N79 : FuncId := 79
noncomputable abbrev F79 : Func := Try.f79
theorem H79 : Try.prog.funcs[N79]? = some F79 := Try.func79
@[reducible] def N80 : FuncId := 80
noncomputable abbrev F80 : Func := Try.f80
theorem H80 : Try.prog.funcs[N80]? = some F80 := Try.func80
@[reducible] def N81 : FuncId := 81
noncomputable abbrev F81 : Func := Try.f81
theorem H81 : Try.prog.funcs[N81]? = some F81 := Try.func81
@[reducible] def N82 : FuncId := 82
noncomputable abbrev F82 : Func := Try.f82
theorem H82 : Try.prog.funcs[N82]? = some F82 := Try.func82
@[reducible] def N83 : FuncId := 83
noncomputable abbrev F83 : Func := Try.f83
theorem H83 : Try.prog.funcs[N83]? = some F83 := Try.func83
@[reducible] def N84 : FuncId := 84
noncomputable abbrev F84 : Func := Try.f84
theorem H84 : Try.prog.funcs[N84]? = some F84 := Try.func84
@[reducible] def N85 : FuncId := 85
noncomputable abbrev F85 : Func := Try.f85
theorem H85 : Try.prog.funcs[N85]? = some F85 := Try.func85
@[reducible] def N86 : FuncId := 86
noncomputable abbrev F86 : Func := Try.f86
theorem H86 : Try.prog.funcs[N86]? = some F86 := Try.func86
@[reducible] def N87 : FuncId := 87
noncomputable abbrev F87 : Func := Try.f87
theorem H87 : Try.prog.funcs[N87]? = some F87 := Try.func87
@[reducible] def N88 : FuncId := 88
noncomputable abbrev F88 : Func := Try.f88
theorem H88 : Try.prog.funcs[N88]? = some F88 := Try.func88
@[reducible] def N89 : FuncId := 89
noncomputable abbrev F89 : Func := Try.f89
theorem H89 : Try.prog.funcs[N89]? = some F89 := Try.func89
@[reducible] def N90 : FuncId := 90
noncomputable abbrev F90 : Func := Try.f90
theorem H90 : Try.prog.funcs[N90]? = some F90 := Try.func90
@[reducible] def N91 : FuncId := 91
noncomputable abbrev F91 : Func := Try.f91
theorem H91 : Try.prog.funcs[N91]? = some F91 := Try.func91
@[reducible] def N92 : FuncId := 92
noncomputable abbrev F92 : Func := Try.f92
theorem H92 : Try.prog.funcs[N92]? = some F92 := Try.func92
@[reducible] def N93 : FuncId := 93
noncomputable abbrev F93 : Func := Try.f93
theorem H93 : Try.prog.funcs[N93]? = some F93 := Try.func93
@[reducible] def N94 : FuncId := 94
noncomputable abbrev F94 : Func := Try.f94
theorem H94 : Try.prog.funcs[N94]? = some F94 := Try.func94
@[reducible] def N95 : FuncId := 95
noncomputable abbrev F95 : Func := Try.f95
theorem H95 : Try.prog.funcs[N95]? = some F95 := Try.func95
@[reducible] def N96 : FuncId := 96
noncomputable abbrev F96 : Func := Try.f96
theorem H96 : Try.prog.funcs[N96]? = some F96 := Try.func96
@[reducible] def N97 : FuncId := 97
noncomputable abbrev F97 : Func := Try.f97
theorem H97 : Try.prog.funcs[N97]? = some F97 := Try.func97
@[reducible] def N98 : FuncId := 98
noncomputable abbrev F98 : Func := Try.f98
theorem H98 : Try.prog.funcs[N98]? = some F98 := Try.func98
@[reducible] def N99 : FuncId := 99
noncomputable abbrev F99 : Func := Try.f99
theorem H99 : Try.prog.funcs[N99]? = some F99 := Try.func99
@[reducible] def N100 : FuncId := 100
noncomputable abbrev F100 : Func := Try.f100
theorem H100 : Try.prog.funcs[N100]? = some F100 := Try.func100
@[reducible] def N101 : FuncId := 101
noncomputable abbrev F101 : Func := Try.f101
theorem H101 : Try.prog.funcs[N101]? = some F101 := Try.func101
@[reducible] def N102 : FuncId := 102
noncomputable abbrev F102 : Func := Try.f102
theorem H102 : Try.prog.funcs[N102]? = some F102 := Try.func102
@[reducible] def N103 : FuncId := 103
noncomputable abbrev F103 : Func := Try.f103
theorem H103 : Try.prog.funcs[N103]? = some F103 := Try.func103
@[reducible] def N104 : FuncId := 104
noncomputable abbrev F104 : Func := Try.f104
theorem H104 : Try.prog.funcs[N104]? = some F104 := Try.func104
@[reducible] def N105 : FuncId := 105
noncomputable abbrev F105 : Func := Try.f105
theorem H105 : Try.prog.funcs[N105]? = some F105 := Try.func105
@[reducible] def N106 : FuncId := 106
noncomputable abbrev F106 : Func := Try.f106
theorem H106 : Try.prog.funcs[N106]? = some F106 := Try.func106
@[reducible] def N107 : FuncId := 107
noncomputable abbrev F107 : Func := Try.f107
theorem H107 : Try.prog.funcs[N107]? = some F107 := Try.func107
@[reducible] def N108 : FuncId := 108
noncomputable abbrev F108 : Func := Try.f108
theorem H108 : Try.prog.funcs[N108]? = some F108 := Try.func108
@[reducible] def N109 : FuncId := 109
noncomputable abbrev F109 : Func := Try.f109
theorem H109 : Try.prog.funcs[N109]? = some F109 := Try.func109
@[reducible] def N110 : FuncId := 110
noncomputable abbrev F110 : Func := Try.f110
theorem H110 : Try.prog.funcs[N110]? = some F110 := Try.func110
@[reducible] def N111 : FuncId := 111
noncomputable abbrev F111 : Func := Try.f111
theorem H111 : Try.prog.funcs[N111]? = some F111 := Try.func111
@[reducible] def N112 : FuncId := 112
noncomputable abbrev F112 : Func := Try.f112
theorem H112 : Try.prog.funcs[N112]? = some F112 := Try.func112
@[reducible] def N113 : FuncId := 113
noncomputable abbrev F113 : Func := Try.f113
theorem H113 : Try.prog.funcs[N113]? = some F113 := Try.func113
@[reducible] def N114 : FuncId := 114
noncomputable abbrev F114 : Func := Try.f114
theorem H114 : Try.prog.funcs[N114]? = some F114 := Try.func114
@[reducible] def N115 : FuncId := 115
noncomputable abbrev F115 : Func := Try.f115
theorem H115 : Try.prog.funcs[N115]? = some F115 := Try.func115
@[reducible] def N116 : FuncId := 116
noncomputable abbrev F116 : Func := Try.f116
theorem H116 : Try.prog.funcs[N116]? = some F116 := Try.func116
@[reducible] def N117 : FuncId := 117
noncomputable abbrev F117 : Func := Try.f117
theorem H117 : Try.prog.funcs[N117]? = some F117 := Try.func117
@[reducible] def N118 : FuncId := 118
noncomputable abbrev F118 : Func := Try.f118
theorem H118 : Try.prog.funcs[N118]? = some F118 := Try.func118
@[reducible] def N119 : FuncId := 119
noncomputable abbrev F119 : Func := Try.f119
theorem H119 : Try.prog.funcs[N119]? = some F119 := Try.func119
@[reducible] def N120 : FuncId := 120
noncomputable abbrev F120 : Func := Try.f120
theorem H120 : Try.prog.funcs[N120]? = some F120 := Try.func120
@[reducible] def N121 : FuncId := 121
noncomputable abbrev F121 : Func := Try.f121
theorem H121 : Try.prog.funcs[N121]? = some F121 := Try.func121
@[reducible] def N122 : FuncId := 122
noncomputable abbrev F122 : Func := Try.f122
theorem H122 : Try.prog.funcs[N122]? = some F122 := Try.func122
@[reducible] def N123 : FuncId := 123
noncomputable abbrev F123 : Func := Try.f123
theorem H123 : Try.prog.funcs[N123]? = some F123 := Try.func123
@[reducible] def N124 : FuncId := 124
noncomputable abbrev F124 : Func := Try.f124
theorem H124 : Try.prog.funcs[N124]? = some F124 := Try.func124
@[reducible] def N125 : FuncId := 125
noncomputable abbrev F125 : Func := Try.f125
theorem H125 : Try.prog.funcs[N125]? = some F125 := Try.func125
@[reducible] def N126 : FuncId := 126
noncomputable abbrev F126 : Func := Try.f126
theorem H126 : Try.prog.funcs[N126]? = some F126 := Try.func126
@[reducible] def N127 : FuncId := 127
noncomputable abbrev F127 : Func := Try.f127
theorem H127 : Try.prog.funcs[N127]? = some F127 := Try.func127
@[reducible] def N128 : FuncId := 128
noncomputable abbrev F128 : Func := Try.f128
theorem H128 : Try.prog.funcs[N128]? = some F128 := Try.func128
@[reducible] def N129 : FuncId := 129
noncomputable abbrev F129 : Func := Try.f129
theorem H129 : Try.prog.funcs[N129]? = some F129 := Try.func129
@[reducible] def intsT : TypeId := 45
end Go.AM.Seat
