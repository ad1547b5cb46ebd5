/- The seat: its table of types, and its numbers of functions. -/
import Derived.Test.YtoeijiackpanoaaGreatAmTab
import Derived.Test.YtoeijiackpanoaaGreatChecked
import Derived.Eval
import Derived.KernelRfl
set_option linter.unusedVariables false
namespace Go.AM.Seat
open Go Go.AM Go.Proofs

def tb : Tab := [
  (3, TI.scal (SV.int IntKind.i64 (Int.ofNat 0))),
  (4, TI.scal (SV.bool false)),
  (41, TI.slice 3 (Ty.int IntKind.i64) 8),
  (22, TI.slice 39 ((Ty.int IntKind.i64).pair ((Ty.int IntKind.i64).pair (Ty.int IntKind.i64))) 24),
  (2, TI.scal (SV.int IntKind.i64 (Int.ofNat 0))),
  (5, TI.scal (SV.int IntKind.u8 (Int.ofNat 0))),
  (9, TI.scal (SV.str ByteArray.empty)),
  (13, TI.struct 2 [SV.str ByteArray.empty, SV.int IntKind.u64 (Int.ofNat 0)] [(0, 1, false), (1, 1, false)] none),
  (21, TI.scal (SV.int IntKind.i32 (Int.ofNat 0))),
  (23, TI.scal (SV.int IntKind.u64 (Int.ofNat 0))),
  (24, TI.slice 48 (((Ty.int IntKind.u64).pair (Ty.int IntKind.u64)).pair (Ty.bool.pair (Ty.bool.pair (((Ty.int IntKind.u64).pair (Ty.int IntKind.u64)).pair ((((Ty.int IntKind.u64).pair (Ty.int IntKind.u64)).pair ((Ty.int IntKind.u64).pair (Ty.int IntKind.u64))).pair (Ty.int IntKind.i64)))))) 80),
  (25, TI.struct 2 [SV.int IntKind.u64 (Int.ofNat 0), SV.int IntKind.u64 (Int.ofNat 0)] [(0, 1, false), (1, 1, false)] (some [CK.int IntKind.u64, CK.int IntKind.u64])),
  (26, TI.struct 2 [SV.int IntKind.u64 (Int.ofNat 0), SV.int IntKind.u64 (Int.ofNat 0)] [(0, 1, false), (1, 1, false)] (some [CK.int IntKind.u64, CK.int IntKind.u64])),
  (28, TI.array 2 [SV.int IntKind.u64 (Int.ofNat 0), SV.int IntKind.u64 (Int.ofNat 0)] (some [CK.int IntKind.u64, CK.int IntKind.u64])),
  (29, TI.array 2 [SV.int IntKind.u64 (Int.ofNat 0), SV.int IntKind.u64 (Int.ofNat 0)] (some [CK.int IntKind.u64, CK.int IntKind.u64])),
  (30, TI.struct 4 [SV.int IntKind.u64 (Int.ofNat 0), SV.int IntKind.u64 (Int.ofNat 0), SV.int IntKind.u64 (Int.ofNat 0), SV.int IntKind.u64 (Int.ofNat 0)] [(0, 2, true), (2, 2, true)] (some [CK.int IntKind.u64, CK.int IntKind.u64, CK.int IntKind.u64, CK.int IntKind.u64])),
  (31, TI.struct 4 [SV.int IntKind.u64 (Int.ofNat 0), SV.int IntKind.u64 (Int.ofNat 0), SV.int IntKind.u64 (Int.ofNat 0), SV.int IntKind.u64 (Int.ofNat 0)] [(0, 2, true), (2, 2, true)] (some [CK.int IntKind.u64, CK.int IntKind.u64, CK.int IntKind.u64, CK.int IntKind.u64])),
  (32, TI.struct 9 [SV.bool false, SV.bool false, SV.int IntKind.u64 (Int.ofNat 0), SV.int IntKind.u64 (Int.ofNat 0), SV.int IntKind.u64 (Int.ofNat 0), SV.int IntKind.u64 (Int.ofNat 0), SV.int IntKind.u64 (Int.ofNat 0), SV.int IntKind.u64 (Int.ofNat 0), SV.int IntKind.i64 (Int.ofNat 0)] [(0, 1, false), (1, 1, false), (2, 2, true), (4, 4, true), (8, 1, false)] (some [CK.bool, CK.bool, CK.int IntKind.u64, CK.int IntKind.u64, CK.int IntKind.u64, CK.int IntKind.u64, CK.int IntKind.u64, CK.int IntKind.u64, CK.int IntKind.i64])),
  (33, TI.struct 9 [SV.bool false, SV.bool false, SV.int IntKind.u64 (Int.ofNat 0), SV.int IntKind.u64 (Int.ofNat 0), SV.int IntKind.u64 (Int.ofNat 0), SV.int IntKind.u64 (Int.ofNat 0), SV.int IntKind.u64 (Int.ofNat 0), SV.int IntKind.u64 (Int.ofNat 0), SV.int IntKind.i64 (Int.ofNat 0)] [(0, 1, false), (1, 1, false), (2, 2, true), (4, 4, true), (8, 1, false)] (some [CK.bool, CK.bool, CK.int IntKind.u64, CK.int IntKind.u64, CK.int IntKind.u64, CK.int IntKind.u64, CK.int IntKind.u64, CK.int IntKind.u64, CK.int IntKind.i64])),
  (34, TI.scal (SV.int IntKind.i64 (Int.ofNat 0))),
  (38, TI.struct 3 [SV.int IntKind.i64 (Int.ofNat 0), SV.int IntKind.i64 (Int.ofNat 0), SV.int IntKind.i64 (Int.ofNat 0)] [(0, 1, false), (1, 1, false), (2, 1, false)] (some [CK.int IntKind.i64, CK.int IntKind.i64, CK.int IntKind.i64])),
  (39, TI.struct 3 [SV.int IntKind.i64 (Int.ofNat 0), SV.int IntKind.i64 (Int.ofNat 0), SV.int IntKind.i64 (Int.ofNat 0)] [(0, 1, false), (1, 1, false), (2, 1, false)] (some [CK.int IntKind.i64, CK.int IntKind.i64, CK.int IntKind.i64])),
  (47, TI.struct 11 [SV.int IntKind.u64 (Int.ofNat 0), SV.int IntKind.u64 (Int.ofNat 0), SV.bool false, SV.bool false, SV.int IntKind.u64 (Int.ofNat 0), SV.int IntKind.u64 (Int.ofNat 0), SV.int IntKind.u64 (Int.ofNat 0), SV.int IntKind.u64 (Int.ofNat 0), SV.int IntKind.u64 (Int.ofNat 0), SV.int IntKind.u64 (Int.ofNat 0), SV.int IntKind.i64 (Int.ofNat 0)] [(0, 2, true), (2, 9, true)] (some [CK.int IntKind.u64, CK.int IntKind.u64, CK.bool, CK.bool, CK.int IntKind.u64, CK.int IntKind.u64, CK.int IntKind.u64, CK.int IntKind.u64, CK.int IntKind.u64, CK.int IntKind.u64, CK.int IntKind.i64])),
  (48, TI.struct 11 [SV.int IntKind.u64 (Int.ofNat 0), SV.int IntKind.u64 (Int.ofNat 0), SV.bool false, SV.bool false, SV.int IntKind.u64 (Int.ofNat 0), SV.int IntKind.u64 (Int.ofNat 0), SV.int IntKind.u64 (Int.ofNat 0), SV.int IntKind.u64 (Int.ofNat 0), SV.int IntKind.u64 (Int.ofNat 0), SV.int IntKind.u64 (Int.ofNat 0), SV.int IntKind.i64 (Int.ofNat 0)] [(0, 2, true), (2, 9, true)] (some [CK.int IntKind.u64, CK.int IntKind.u64, CK.bool, CK.bool, CK.int IntKind.u64, CK.int IntKind.u64, CK.int IntKind.u64, CK.int IntKind.u64, CK.int IntKind.u64, CK.int IntKind.u64, CK.int IntKind.i64])),
  (50, TI.slice 26 ((Ty.int IntKind.u64).pair (Ty.int IntKind.u64)) 16),
  (67, TI.struct 11 [SV.nils, SV.bool false, SV.bool false, SV.int IntKind.u64 (Int.ofNat 0), SV.int IntKind.u64 (Int.ofNat 0), SV.int IntKind.u64 (Int.ofNat 0), SV.int IntKind.u64 (Int.ofNat 0), SV.int IntKind.u64 (Int.ofNat 0), SV.int IntKind.u64 (Int.ofNat 0), SV.int IntKind.i64 (Int.ofNat 0), SV.int IntKind.i64 (Int.ofNat 0)] [(0, 1, false), (1, 9, true), (10, 1, false)] none),
  (68, TI.struct 11 [SV.nils, SV.bool false, SV.bool false, SV.int IntKind.u64 (Int.ofNat 0), SV.int IntKind.u64 (Int.ofNat 0), SV.int IntKind.u64 (Int.ofNat 0), SV.int IntKind.u64 (Int.ofNat 0), SV.int IntKind.u64 (Int.ofNat 0), SV.int IntKind.u64 (Int.ofNat 0), SV.int IntKind.i64 (Int.ofNat 0), SV.int IntKind.i64 (Int.ofNat 0)] [(0, 1, false), (1, 9, true), (10, 1, false)] none),
  (73, TI.slice 4 Ty.bool 1),
  (85, TI.struct 2 [SV.int IntKind.u64 (Int.ofNat 0), SV.int IntKind.u64 (Int.ofNat 0)] [(0, 1, false), (1, 1, false)] (some [CK.int IntKind.u64, CK.int IntKind.u64])),
  (86, TI.struct 2 [SV.int IntKind.u64 (Int.ofNat 0), SV.int IntKind.u64 (Int.ofNat 0)] [(0, 1, false), (1, 1, false)] (some [CK.int IntKind.u64, CK.int IntKind.u64])),
  (95, TI.map ((Ty.int IntKind.i64).pair ((Ty.int IntKind.i64).pair (Ty.int IntKind.i64))) (Ty.int IntKind.i64)),
  (99, TI.slice 33 (Ty.bool.pair (Ty.bool.pair (((Ty.int IntKind.u64).pair (Ty.int IntKind.u64)).pair ((((Ty.int IntKind.u64).pair (Ty.int IntKind.u64)).pair ((Ty.int IntKind.u64).pair (Ty.int IntKind.u64))).pair (Ty.int IntKind.i64))))) 64),
  (104, TI.slice 23 (Ty.int IntKind.u64) 8),
  (127, TI.scal (SV.int IntKind.u64 (Int.ofNat 0))),
  (137, TI.scal (SV.int IntKind.u32 (Int.ofNat 0)))]
def tbTypes : List TypeId := [3, 4, 41, 22, 2, 5, 9, 13, 21, 23, 24, 25, 26, 28, 29, 30, 31, 32, 33, 34, 38, 39, 47, 48, 50, 67, 68, 73, 85, 86, 95, 99, 104, 127, 137]

theorem tbOk : TabOk Tryz.prog tb := mkTab_ok (Ts := tbTypes) (by kernel_rfl)
theorem mixed : Tryz.prog.follows .mixedOrders = true := Tryz.checked.mixed

@[reducible] def N19 : FuncId := 62
noncomputable abbrev F19 : Func := Tryz.f62
theorem H19 : Tryz.prog.funcs[N19]? = some F19 := Tryz.func62
@[reducible] def N22 : FuncId := 12
noncomputable abbrev F22 : Func := Tryz.f12
theorem H22 : Tryz.prog.funcs[N22]? = some F22 := Tryz.func12
@[reducible] def N23 : FuncId := 16
noncomputable abbrev F23 : Func := Tryz.f16
theorem H23 : Tryz.prog.funcs[N23]? = some F23 := Tryz.func16
@[reducible] def N26 : FuncId := 7
noncomputable abbrev F26 : Func := Tryz.f7
theorem H26 : Tryz.prog.funcs[N26]? = some F26 := Tryz.func7
@[reducible] def N27 : FuncId := 42
noncomputable abbrev F27 : Func := Tryz.f42
theorem H27 : Tryz.prog.funcs[N27]? = some F27 := Tryz.func42
@[reducible] def N31 : FuncId := 9
noncomputable abbrev F31 : Func := Tryz.f9
theorem H31 : Tryz.prog.funcs[N31]? = some F31 := Tryz.func9
@[reducible] def N44 : FuncId := 31
noncomputable abbrev F44 : Func := Tryz.f31
theorem H44 : Tryz.prog.funcs[N44]? = some F44 := Tryz.func31
@[reducible] def N45 : FuncId := 32
noncomputable abbrev F45 : Func := Tryz.f32
theorem H45 : Tryz.prog.funcs[N45]? = some F45 := Tryz.func32
@[reducible] def N47 : FuncId := 34
noncomputable abbrev F47 : Func := Tryz.f34
theorem H47 : Tryz.prog.funcs[N47]? = some F47 := Tryz.func34
@[reducible] def N49 : FuncId := 24
noncomputable abbrev F49 : Func := Tryz.f24
theorem H49 : Tryz.prog.funcs[N49]? = some F49 := Tryz.func24
@[reducible] def N50 : FuncId := 44
noncomputable abbrev F50 : Func := Tryz.f44
theorem H50 : Tryz.prog.funcs[N50]? = some F50 := Tryz.func44
@[reducible] def N51 : FuncId := 36
noncomputable abbrev F51 : Func := Tryz.f36
theorem H51 : Tryz.prog.funcs[N51]? = some F51 := Tryz.func36
@[reducible] def N52 : FuncId := 46
noncomputable abbrev F52 : Func := Tryz.f46
theorem H52 : Tryz.prog.funcs[N52]? = some F52 := Tryz.func46
@[reducible] def N53 : FuncId := 33
noncomputable abbrev F53 : Func := Tryz.f33
theorem H53 : Tryz.prog.funcs[N53]? = some F53 := Tryz.func33
@[reducible] def N54 : FuncId := 43
noncomputable abbrev F54 : Func := Tryz.f43
theorem H54 : Tryz.prog.funcs[N54]? = some F54 := Tryz.func43
@[reducible] def N55 : FuncId := 45
noncomputable abbrev F55 : Func := Tryz.f45
theorem H55 : Tryz.prog.funcs[N55]? = some F55 := Tryz.func45
@[reducible] def N59 : FuncId := 76
noncomputable abbrev F59 : Func := Tryz.f76
theorem H59 : Tryz.prog.funcs[N59]? = some F59 := Tryz.func76
@[reducible] def N67 : FuncId := 28
noncomputable abbrev F67 : Func := Tryz.f28
theorem H67 : Tryz.prog.funcs[N67]? = some F67 := Tryz.func28
@[reducible] def N74 : FuncId := 100
noncomputable abbrev F74 : Func := Tryz.f100
theorem H74 : Tryz.prog.funcs[N74]? = some F74 := Tryz.func100
@[reducible] def N84 : FuncId := 64
noncomputable abbrev F84 : Func := Tryz.f64
theorem H84 : Tryz.prog.funcs[N84]? = some F84 := Tryz.func64
@[reducible] def N86 : FuncId := 65
noncomputable abbrev F86 : Func := Tryz.f65
theorem H86 : Tryz.prog.funcs[N86]? = some F86 := Tryz.func65
@[reducible] def N88 : FuncId := 61
noncomputable abbrev F88 : Func := Tryz.f61
theorem H88 : Tryz.prog.funcs[N88]? = some F88 := Tryz.func61
@[reducible] def N89 : FuncId := 77
noncomputable abbrev F89 : Func := Tryz.f77
theorem H89 : Tryz.prog.funcs[N89]? = some F89 := Tryz.func77
@[reducible] def N90 : FuncId := 71
noncomputable abbrev F90 : Func := Tryz.f71
theorem H90 : Tryz.prog.funcs[N90]? = some F90 := Tryz.func71
@[reducible] def N91 : FuncId := 72
noncomputable abbrev F91 : Func := Tryz.f72
theorem H91 : Tryz.prog.funcs[N91]? = some F91 := Tryz.func72
@[reducible] def N92 : FuncId := 66
noncomputable abbrev F92 : Func := Tryz.f66
theorem H92 : Tryz.prog.funcs[N92]? = some F92 := Tryz.func66
@[reducible] def N93 : FuncId := 78
noncomputable abbrev F93 : Func := Tryz.f78
theorem H93 : Tryz.prog.funcs[N93]? = some F93 := Tryz.func78
@[reducible] def N94 : FuncId := 79
noncomputable abbrev F94 : Func := Tryz.f79
theorem H94 : Tryz.prog.funcs[N94]? = some F94 := Tryz.func79
@[reducible] def N101 : FuncId := 63
noncomputable abbrev F101 : Func := Tryz.f63
theorem H101 : Tryz.prog.funcs[N101]? = some F101 := Tryz.func63
@[reducible] def N103 : FuncId := 88
noncomputable abbrev F103 : Func := Tryz.f88
theorem H103 : Tryz.prog.funcs[N103]? = some F103 := Tryz.func88
@[reducible] def N104 : FuncId := 87
noncomputable abbrev F104 : Func := Tryz.f87
theorem H104 : Tryz.prog.funcs[N104]? = some F104 := Tryz.func87
@[reducible] def N105 : FuncId := 94
noncomputable abbrev F105 : Func := Tryz.f94
theorem H105 : Tryz.prog.funcs[N105]? = some F105 := Tryz.func94
@[reducible] def N106 : FuncId := 89
noncomputable abbrev F106 : Func := Tryz.f89
theorem H106 : Tryz.prog.funcs[N106]? = some F106 := Tryz.func89
@[reducible] def N107 : FuncId := 95
noncomputable abbrev F107 : Func := Tryz.f95
theorem H107 : Tryz.prog.funcs[N107]? = some F107 := Tryz.func95
@[reducible] def N119 : FuncId := 86
noncomputable abbrev F119 : Func := Tryz.f86
theorem H119 : Tryz.prog.funcs[N119]? = some F119 := Tryz.func86
@[reducible] def N121 : FuncId := 101
noncomputable abbrev F121 : Func := Tryz.f101
theorem H121 : Tryz.prog.funcs[N121]? = some F121 := Tryz.func101
@[reducible] def N122 : FuncId := 103
noncomputable abbrev F122 : Func := Tryz.f103
theorem H122 : Tryz.prog.funcs[N122]? = some F122 := Tryz.func103
@[reducible] def N308 : FuncId := 4
noncomputable abbrev F308 : Func := Tryz.f4
theorem H308 : Tryz.prog.funcs[N308]? = some F308 := Tryz.func4
@[reducible] def N309 : FuncId := 8
noncomputable abbrev F309 : Func := Tryz.f8
theorem H309 : Tryz.prog.funcs[N309]? = some F309 := Tryz.func8
@[reducible] def N310 : FuncId := 17
noncomputable abbrev F310 : Func := Tryz.f17
theorem H310 : Tryz.prog.funcs[N310]? = some F310 := Tryz.func17
@[reducible] def N311 : FuncId := 22
noncomputable abbrev F311 : Func := Tryz.f22
theorem H311 : Tryz.prog.funcs[N311]? = some F311 := Tryz.func22
@[reducible] def N312 : FuncId := 20
noncomputable abbrev F312 : Func := Tryz.f20
theorem H312 : Tryz.prog.funcs[N312]? = some F312 := Tryz.func20
@[reducible] def N314 : FuncId := 14
noncomputable abbrev F314 : Func := Tryz.f14
theorem H314 : Tryz.prog.funcs[N314]? = some F314 := Tryz.func14
@[reducible] def N318 : FuncId := 19
noncomputable abbrev F318 : Func := Tryz.f19
theorem H318 : Tryz.prog.funcs[N318]? = some F318 := Tryz.func19
@[reducible] def N319 : FuncId := 5
noncomputable abbrev F319 : Func := Tryz.f5
theorem H319 : Tryz.prog.funcs[N319]? = some F319 := Tryz.func5
@[reducible] def N323 : FuncId := 18
noncomputable abbrev F323 : Func := Tryz.f18
theorem H323 : Tryz.prog.funcs[N323]? = some F323 := Tryz.func18
@[reducible] def N324 : FuncId := 21
noncomputable abbrev F324 : Func := Tryz.f21
theorem H324 : Tryz.prog.funcs[N324]? = some F324 := Tryz.func21
@[reducible] def N325 : FuncId := 23
noncomputable abbrev F325 : Func := Tryz.f23
theorem H325 : Tryz.prog.funcs[N325]? = some F325 := Tryz.func23
@[reducible] def N326 : FuncId := 47
noncomputable abbrev F326 : Func := Tryz.f47
theorem H326 : Tryz.prog.funcs[N326]? = some F326 := Tryz.func47
@[reducible] def N327 : FuncId := 48
noncomputable abbrev F327 : Func := Tryz.f48
theorem H327 : Tryz.prog.funcs[N327]? = some F327 := Tryz.func48
@[reducible] def N328 : FuncId := 58
noncomputable abbrev F328 : Func := Tryz.f58
theorem H328 : Tryz.prog.funcs[N328]? = some F328 := Tryz.func58
@[reducible] def N329 : FuncId := 59
noncomputable abbrev F329 : Func := Tryz.f59
theorem H329 : Tryz.prog.funcs[N329]? = some F329 := Tryz.func59
@[reducible] def N330 : FuncId := 60
noncomputable abbrev F330 : Func := Tryz.f60
theorem H330 : Tryz.prog.funcs[N330]? = some F330 := Tryz.func60
@[reducible] def N331 : FuncId := 52
noncomputable abbrev F331 : Func := Tryz.f52
theorem H331 : Tryz.prog.funcs[N331]? = some F331 := Tryz.func52
@[reducible] def N332 : FuncId := 53
noncomputable abbrev F332 : Func := Tryz.f53
theorem H332 : Tryz.prog.funcs[N332]? = some F332 := Tryz.func53
@[reducible] def N333 : FuncId := 54
noncomputable abbrev F333 : Func := Tryz.f54
theorem H333 : Tryz.prog.funcs[N333]? = some F333 := Tryz.func54
@[reducible] def N334 : FuncId := 35
noncomputable abbrev F334 : Func := Tryz.f35
theorem H334 : Tryz.prog.funcs[N334]? = some F334 := Tryz.func35
@[reducible] def N335 : FuncId := 38
noncomputable abbrev F335 : Func := Tryz.f38
theorem H335 : Tryz.prog.funcs[N335]? = some F335 := Tryz.func38
@[reducible] def N336 : FuncId := 39
noncomputable abbrev F336 : Func := Tryz.f39
theorem H336 : Tryz.prog.funcs[N336]? = some F336 := Tryz.func39
@[reducible] def N337 : FuncId := 40
noncomputable abbrev F337 : Func := Tryz.f40
theorem H337 : Tryz.prog.funcs[N337]? = some F337 := Tryz.func40
@[reducible] def N338 : FuncId := 41
noncomputable abbrev F338 : Func := Tryz.f41
theorem H338 : Tryz.prog.funcs[N338]? = some F338 := Tryz.func41
@[reducible] def N341 : FuncId := 51
noncomputable abbrev F341 : Func := Tryz.f51
theorem H341 : Tryz.prog.funcs[N341]? = some F341 := Tryz.func51
@[reducible] def N344 : FuncId := 67
noncomputable abbrev F344 : Func := Tryz.f67
theorem H344 : Tryz.prog.funcs[N344]? = some F344 := Tryz.func67
@[reducible] def N345 : FuncId := 74
noncomputable abbrev F345 : Func := Tryz.f74
theorem H345 : Tryz.prog.funcs[N345]? = some F345 := Tryz.func74
@[reducible] def N346 : FuncId := 11
noncomputable abbrev F346 : Func := Tryz.f11
theorem H346 : Tryz.prog.funcs[N346]? = some F346 := Tryz.func11
@[reducible] def N348 : FuncId := 50
noncomputable abbrev F348 : Func := Tryz.f50
theorem H348 : Tryz.prog.funcs[N348]? = some F348 := Tryz.func50
@[reducible] def N349 : FuncId := 10
noncomputable abbrev F349 : Func := Tryz.f10
theorem H349 : Tryz.prog.funcs[N349]? = some F349 := Tryz.func10
@[reducible] def N351 : FuncId := 26
noncomputable abbrev F351 : Func := Tryz.f26
theorem H351 : Tryz.prog.funcs[N351]? = some F351 := Tryz.func26
@[reducible] def N353 : FuncId := 29
noncomputable abbrev F353 : Func := Tryz.f29
theorem H353 : Tryz.prog.funcs[N353]? = some F353 := Tryz.func29
@[reducible] def N354 : FuncId := 30
noncomputable abbrev F354 : Func := Tryz.f30
theorem H354 : Tryz.prog.funcs[N354]? = some F354 := Tryz.func30
@[reducible] def N360 : FuncId := 49
noncomputable abbrev F360 : Func := Tryz.f49
theorem H360 : Tryz.prog.funcs[N360]? = some F360 := Tryz.func49
@[reducible] def N361 : FuncId := 55
noncomputable abbrev F361 : Func := Tryz.f55
theorem H361 : Tryz.prog.funcs[N361]? = some F361 := Tryz.func55
@[reducible] def N362 : FuncId := 56
noncomputable abbrev F362 : Func := Tryz.f56
theorem H362 : Tryz.prog.funcs[N362]? = some F362 := Tryz.func56
@[reducible] def N363 : FuncId := 57
noncomputable abbrev F363 : Func := Tryz.f57
theorem H363 : Tryz.prog.funcs[N363]? = some F363 := Tryz.func57
@[reducible] def N364 : FuncId := 80
noncomputable abbrev F364 : Func := Tryz.f80
theorem H364 : Tryz.prog.funcs[N364]? = some F364 := Tryz.func80
@[reducible] def N365 : FuncId := 81
noncomputable abbrev F365 : Func := Tryz.f81
theorem H365 : Tryz.prog.funcs[N365]? = some F365 := Tryz.func81
@[reducible] def N366 : FuncId := 82
noncomputable abbrev F366 : Func := Tryz.f82
theorem H366 : Tryz.prog.funcs[N366]? = some F366 := Tryz.func82
@[reducible] def N368 : FuncId := 84
noncomputable abbrev F368 : Func := Tryz.f84
theorem H368 : Tryz.prog.funcs[N368]? = some F368 := Tryz.func84
@[reducible] def N369 : FuncId := 85
noncomputable abbrev F369 : Func := Tryz.f85
theorem H369 : Tryz.prog.funcs[N369]? = some F369 := Tryz.func85
@[reducible] def N370 : FuncId := 68
noncomputable abbrev F370 : Func := Tryz.f68
theorem H370 : Tryz.prog.funcs[N370]? = some F370 := Tryz.func68
@[reducible] def N371 : FuncId := 69
noncomputable abbrev F371 : Func := Tryz.f69
theorem H371 : Tryz.prog.funcs[N371]? = some F371 := Tryz.func69
@[reducible] def N372 : FuncId := 70
noncomputable abbrev F372 : Func := Tryz.f70
theorem H372 : Tryz.prog.funcs[N372]? = some F372 := Tryz.func70
@[reducible] def N373 : FuncId := 73
noncomputable abbrev F373 : Func := Tryz.f73
theorem H373 : Tryz.prog.funcs[N373]? = some F373 := Tryz.func73
@[reducible] def N374 : FuncId := 75
noncomputable abbrev F374 : Func := Tryz.f75
theorem H374 : Tryz.prog.funcs[N374]? = some F374 := Tryz.func75
@[reducible] def N375 : FuncId := 83
noncomputable abbrev F375 : Func := Tryz.f83
theorem H375 : Tryz.prog.funcs[N375]? = some F375 := Tryz.func83
@[reducible] def N376 : FuncId := 90
noncomputable abbrev F376 : Func := Tryz.f90
theorem H376 : Tryz.prog.funcs[N376]? = some F376 := Tryz.func90
@[reducible] def N377 : FuncId := 27
noncomputable abbrev F377 : Func := Tryz.f27
theorem H377 : Tryz.prog.funcs[N377]? = some F377 := Tryz.func27
@[reducible] def N379 : FuncId := 25
noncomputable abbrev F379 : Func := Tryz.f25
theorem H379 : Tryz.prog.funcs[N379]? = some F379 := Tryz.func25
@[reducible] def N399 : FuncId := 96
noncomputable abbrev F399 : Func := Tryz.f96
theorem H399 : Tryz.prog.funcs[N399]? = some F399 := Tryz.func96
@[reducible] def N400 : FuncId := 97
noncomputable abbrev F400 : Func := Tryz.f97
theorem H400 : Tryz.prog.funcs[N400]? = some F400 := Tryz.func97
@[reducible] def N401 : FuncId := 98
noncomputable abbrev F401 : Func := Tryz.f98
theorem H401 : Tryz.prog.funcs[N401]? = some F401 := Tryz.func98
@[reducible] def N402 : FuncId := 99
noncomputable abbrev F402 : Func := Tryz.f99
theorem H402 : Tryz.prog.funcs[N402]? = some F402 := Tryz.func99
@[reducible] def N403 : FuncId := 91
noncomputable abbrev F403 : Func := Tryz.f91
theorem H403 : Tryz.prog.funcs[N403]? = some F403 := Tryz.func91
@[reducible] def N404 : FuncId := 92
noncomputable abbrev F404 : Func := Tryz.f92
theorem H404 : Tryz.prog.funcs[N404]? = some F404 := Tryz.func92
@[reducible] def N405 : FuncId := 93
noncomputable abbrev F405 : Func := Tryz.f93
theorem H405 : Tryz.prog.funcs[N405]? = some F405 := Tryz.func93
@[reducible] def N421 : FuncId := 106
noncomputable abbrev F421 : Func := Tryz.f106
theorem H421 : Tryz.prog.funcs[N421]? = some F421 := Tryz.func106
@[reducible] def N422 : FuncId := 104
noncomputable abbrev F422 : Func := Tryz.f104
theorem H422 : Tryz.prog.funcs[N422]? = some F422 := Tryz.func104
@[reducible] def N423 : FuncId := 105
noncomputable abbrev F423 : Func := Tryz.f105
theorem H423 : Tryz.prog.funcs[N423]? = some F423 := Tryz.func105
@[reducible] def N424 : FuncId := 102
noncomputable abbrev F424 : Func := Tryz.f102
theorem H424 : Tryz.prog.funcs[N424]? = some F424 := Tryz.func102
@[reducible] def N615 : FuncId := 15
noncomputable abbrev F615 : Func := Tryz.f15
theorem H615 : Tryz.prog.funcs[N615]? = some F615 := Tryz.func15
@[reducible] def N633 : FuncId := 37
noncomputable abbrev F633 : Func := Tryz.f37
theorem H633 : Tryz.prog.funcs[N633]? = some F633 := Tryz.func37
@[reducible] def N703 : FuncId := 3
noncomputable abbrev F703 : Func := Tryz.f3
theorem H703 : Tryz.prog.funcs[N703]? = some F703 := Tryz.func3
@[reducible] def N706 : FuncId := 6
noncomputable abbrev F706 : Func := Tryz.f6
theorem H706 : Tryz.prog.funcs[N706]? = some F706 := Tryz.func6
@[reducible] def N713 : FuncId := 13
noncomputable abbrev F713 : Func := Tryz.f13
theorem H713 : Tryz.prog.funcs[N713]? = some F713 := Tryz.func13
end Go.AM.Seat
