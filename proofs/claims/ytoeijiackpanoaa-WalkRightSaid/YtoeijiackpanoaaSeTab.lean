/- The seat: its table of types, and its numbers of functions. -/
import Derived.Test.YtoeijiackpanoaaAmTab
import Derived.Test.YtoeijiackpanoaaChecked
import Derived.Eval
import Derived.KernelRfl
set_option linter.unusedVariables false
namespace Go.AM.Seat
open Go Go.AM Go.Proofs

def tb : Tab := [
  (2, TI.scal (SV.int IntKind.i64 (Int.ofNat 0))),
  (3, TI.scal (SV.int IntKind.i64 (Int.ofNat 0))),
  (4, TI.scal (SV.bool false)),
  (5, TI.scal (SV.int IntKind.u8 (Int.ofNat 0))),
  (9, TI.scal (SV.str ByteArray.empty)),
  (13, TI.struct 2 [SV.str ByteArray.empty, SV.int IntKind.u64 (Int.ofNat 0)] [(0, 1, false), (1, 1, false)] none),
  (21, TI.scal (SV.int IntKind.i32 (Int.ofNat 0))),
  (22, TI.scal (SV.int IntKind.u64 (Int.ofNat 0))),
  (23, TI.struct 2 [SV.int IntKind.u64 (Int.ofNat 0), SV.int IntKind.u64 (Int.ofNat 0)] [(0, 1, false), (1, 1, false)] (some [CK.int IntKind.u64, CK.int IntKind.u64])),
  (24, TI.struct 2 [SV.int IntKind.u64 (Int.ofNat 0), SV.int IntKind.u64 (Int.ofNat 0)] [(0, 1, false), (1, 1, false)] (some [CK.int IntKind.u64, CK.int IntKind.u64])),
  (26, TI.slice 3 (Ty.int IntKind.i64) 8),
  (27, TI.scal (SV.int IntKind.i64 (Int.ofNat 0))),
  (30, TI.slice 24 ((Ty.int IntKind.u64).pair (Ty.int IntKind.u64)) 16),
  (43, TI.array 2 [SV.int IntKind.u64 (Int.ofNat 0), SV.int IntKind.u64 (Int.ofNat 0)] (some [CK.int IntKind.u64, CK.int IntKind.u64])),
  (44, TI.array 2 [SV.int IntKind.u64 (Int.ofNat 0), SV.int IntKind.u64 (Int.ofNat 0)] (some [CK.int IntKind.u64, CK.int IntKind.u64])),
  (45, TI.slice 51 ((Ty.int IntKind.i64).pair ((Ty.int IntKind.i64).pair (Ty.int IntKind.i64))) 24),
  (46, TI.struct 4 [SV.int IntKind.u64 (Int.ofNat 0), SV.int IntKind.u64 (Int.ofNat 0), SV.int IntKind.u64 (Int.ofNat 0), SV.int IntKind.u64 (Int.ofNat 0)] [(0, 2, true), (2, 2, true)] (some [CK.int IntKind.u64, CK.int IntKind.u64, CK.int IntKind.u64, CK.int IntKind.u64])),
  (47, TI.struct 4 [SV.int IntKind.u64 (Int.ofNat 0), SV.int IntKind.u64 (Int.ofNat 0), SV.int IntKind.u64 (Int.ofNat 0), SV.int IntKind.u64 (Int.ofNat 0)] [(0, 2, true), (2, 2, true)] (some [CK.int IntKind.u64, CK.int IntKind.u64, CK.int IntKind.u64, CK.int IntKind.u64])),
  (48, TI.struct 9 [SV.bool false, SV.bool false, SV.int IntKind.u64 (Int.ofNat 0), SV.int IntKind.u64 (Int.ofNat 0), SV.int IntKind.u64 (Int.ofNat 0), SV.int IntKind.u64 (Int.ofNat 0), SV.int IntKind.u64 (Int.ofNat 0), SV.int IntKind.u64 (Int.ofNat 0), SV.int IntKind.i64 (Int.ofNat 0)] [(0, 1, false), (1, 1, false), (2, 2, true), (4, 4, true), (8, 1, false)] (some [CK.bool, CK.bool, CK.int IntKind.u64, CK.int IntKind.u64, CK.int IntKind.u64, CK.int IntKind.u64, CK.int IntKind.u64, CK.int IntKind.u64, CK.int IntKind.i64])),
  (49, TI.struct 9 [SV.bool false, SV.bool false, SV.int IntKind.u64 (Int.ofNat 0), SV.int IntKind.u64 (Int.ofNat 0), SV.int IntKind.u64 (Int.ofNat 0), SV.int IntKind.u64 (Int.ofNat 0), SV.int IntKind.u64 (Int.ofNat 0), SV.int IntKind.u64 (Int.ofNat 0), SV.int IntKind.i64 (Int.ofNat 0)] [(0, 1, false), (1, 1, false), (2, 2, true), (4, 4, true), (8, 1, false)] (some [CK.bool, CK.bool, CK.int IntKind.u64, CK.int IntKind.u64, CK.int IntKind.u64, CK.int IntKind.u64, CK.int IntKind.u64, CK.int IntKind.u64, CK.int IntKind.i64])),
  (50, TI.struct 3 [SV.int IntKind.i64 (Int.ofNat 0), SV.int IntKind.i64 (Int.ofNat 0), SV.int IntKind.i64 (Int.ofNat 0)] [(0, 1, false), (1, 1, false), (2, 1, false)] (some [CK.int IntKind.i64, CK.int IntKind.i64, CK.int IntKind.i64])),
  (51, TI.struct 3 [SV.int IntKind.i64 (Int.ofNat 0), SV.int IntKind.i64 (Int.ofNat 0), SV.int IntKind.i64 (Int.ofNat 0)] [(0, 1, false), (1, 1, false), (2, 1, false)] (some [CK.int IntKind.i64, CK.int IntKind.i64, CK.int IntKind.i64])),
  (52, TI.slice 85 (((Ty.int IntKind.u64).pair (Ty.int IntKind.u64)).pair (Ty.bool.pair (Ty.bool.pair (((Ty.int IntKind.u64).pair (Ty.int IntKind.u64)).pair ((((Ty.int IntKind.u64).pair (Ty.int IntKind.u64)).pair ((Ty.int IntKind.u64).pair (Ty.int IntKind.u64))).pair (Ty.int IntKind.i64)))))) 80),
  (61, TI.slice 22 (Ty.int IntKind.u64) 8),
  (73, TI.struct 2 [SV.int IntKind.u64 (Int.ofNat 0), SV.int IntKind.u64 (Int.ofNat 0)] [(0, 1, false), (1, 1, false)] (some [CK.int IntKind.u64, CK.int IntKind.u64])),
  (74, TI.struct 2 [SV.int IntKind.u64 (Int.ofNat 0), SV.int IntKind.u64 (Int.ofNat 0)] [(0, 1, false), (1, 1, false)] (some [CK.int IntKind.u64, CK.int IntKind.u64])),
  (84, TI.struct 11 [SV.int IntKind.u64 (Int.ofNat 0), SV.int IntKind.u64 (Int.ofNat 0), SV.bool false, SV.bool false, SV.int IntKind.u64 (Int.ofNat 0), SV.int IntKind.u64 (Int.ofNat 0), SV.int IntKind.u64 (Int.ofNat 0), SV.int IntKind.u64 (Int.ofNat 0), SV.int IntKind.u64 (Int.ofNat 0), SV.int IntKind.u64 (Int.ofNat 0), SV.int IntKind.i64 (Int.ofNat 0)] [(0, 2, true), (2, 9, true)] (some [CK.int IntKind.u64, CK.int IntKind.u64, CK.bool, CK.bool, CK.int IntKind.u64, CK.int IntKind.u64, CK.int IntKind.u64, CK.int IntKind.u64, CK.int IntKind.u64, CK.int IntKind.u64, CK.int IntKind.i64])),
  (85, TI.struct 11 [SV.int IntKind.u64 (Int.ofNat 0), SV.int IntKind.u64 (Int.ofNat 0), SV.bool false, SV.bool false, SV.int IntKind.u64 (Int.ofNat 0), SV.int IntKind.u64 (Int.ofNat 0), SV.int IntKind.u64 (Int.ofNat 0), SV.int IntKind.u64 (Int.ofNat 0), SV.int IntKind.u64 (Int.ofNat 0), SV.int IntKind.u64 (Int.ofNat 0), SV.int IntKind.i64 (Int.ofNat 0)] [(0, 2, true), (2, 9, true)] (some [CK.int IntKind.u64, CK.int IntKind.u64, CK.bool, CK.bool, CK.int IntKind.u64, CK.int IntKind.u64, CK.int IntKind.u64, CK.int IntKind.u64, CK.int IntKind.u64, CK.int IntKind.u64, CK.int IntKind.i64])),
  (92, TI.struct 11 [SV.nils, SV.bool false, SV.bool false, SV.int IntKind.u64 (Int.ofNat 0), SV.int IntKind.u64 (Int.ofNat 0), SV.int IntKind.u64 (Int.ofNat 0), SV.int IntKind.u64 (Int.ofNat 0), SV.int IntKind.u64 (Int.ofNat 0), SV.int IntKind.u64 (Int.ofNat 0), SV.int IntKind.i64 (Int.ofNat 0), SV.int IntKind.i64 (Int.ofNat 0)] [(0, 1, false), (1, 9, true), (10, 1, false)] none),
  (93, TI.struct 11 [SV.nils, SV.bool false, SV.bool false, SV.int IntKind.u64 (Int.ofNat 0), SV.int IntKind.u64 (Int.ofNat 0), SV.int IntKind.u64 (Int.ofNat 0), SV.int IntKind.u64 (Int.ofNat 0), SV.int IntKind.u64 (Int.ofNat 0), SV.int IntKind.u64 (Int.ofNat 0), SV.int IntKind.i64 (Int.ofNat 0), SV.int IntKind.i64 (Int.ofNat 0)] [(0, 1, false), (1, 9, true), (10, 1, false)] none),
  (97, TI.map ((Ty.int IntKind.i64).pair ((Ty.int IntKind.i64).pair (Ty.int IntKind.i64))) (Ty.int IntKind.i64)),
  (122, TI.slice 4 Ty.bool 1),
  (136, TI.struct 3 [SV.int IntKind.i64 (Int.ofNat 0), SV.nils, SV.nils] [(0, 1, false), (1, 1, false), (2, 1, false)] none),
  (137, TI.struct 3 [SV.int IntKind.i64 (Int.ofNat 0), SV.nils, SV.nils] [(0, 1, false), (1, 1, false), (2, 1, false)] none),
  (147, TI.scal (SV.int IntKind.u64 (Int.ofNat 0))),
  (152, TI.slice 49 (Ty.bool.pair (Ty.bool.pair (((Ty.int IntKind.u64).pair (Ty.int IntKind.u64)).pair ((((Ty.int IntKind.u64).pair (Ty.int IntKind.u64)).pair ((Ty.int IntKind.u64).pair (Ty.int IntKind.u64))).pair (Ty.int IntKind.i64))))) 64),
  (170, TI.scal (SV.int IntKind.i64 (Int.ofNat 0))),
  (177, TI.scal (SV.int IntKind.u32 (Int.ofNat 0))),
  (180, TI.scal (SV.int IntKind.u64 (Int.ofNat 0))),
  (186, TI.slice 61 (Ty.int IntKind.u64).sl 24)]
def tbTypes : List TypeId := [2, 3, 4, 5, 9, 13, 21, 22, 23, 24, 26, 27, 30, 43, 44, 45, 46, 47, 48, 49, 50, 51, 52, 61, 73, 74, 84, 85, 92, 93, 97, 122, 136, 137, 147, 152, 170, 177, 180, 186]

theorem tbOk : TabOk Try.prog tb := mkTab_ok (Ts := tbTypes) (by kernel_rfl)
theorem mixed : Try.prog.follows .mixedOrders = true := Try.checked.mixed

@[reducible] def N19 : FuncId := 84
noncomputable abbrev F19 : Func := Try.f84
theorem H19 : Try.prog.funcs[N19]? = some F19 := Try.func84
@[reducible] def N22 : FuncId := 50
noncomputable abbrev F22 : Func := Try.f50
theorem H22 : Try.prog.funcs[N22]? = some F22 := Try.func50
@[reducible] def N31 : FuncId := 13
noncomputable abbrev F31 : Func := Try.f13
theorem H31 : Try.prog.funcs[N31]? = some F31 := Try.func13
@[reducible] def N44 : FuncId := 80
noncomputable abbrev F44 : Func := Try.f80
theorem H44 : Try.prog.funcs[N44]? = some F44 := Try.func80
@[reducible] def N45 : FuncId := 81
noncomputable abbrev F45 : Func := Try.f81
theorem H45 : Try.prog.funcs[N45]? = some F45 := Try.func81
@[reducible] def N47 : FuncId := 83
noncomputable abbrev F47 : Func := Try.f83
theorem H47 : Try.prog.funcs[N47]? = some F47 := Try.func83
@[reducible] def N49 : FuncId := 21
noncomputable abbrev F49 : Func := Try.f21
theorem H49 : Try.prog.funcs[N49]? = some F49 := Try.func21
@[reducible] def N53 : FuncId := 82
noncomputable abbrev F53 : Func := Try.f82
theorem H53 : Try.prog.funcs[N53]? = some F53 := Try.func82
@[reducible] def N67 : FuncId := 78
noncomputable abbrev F67 : Func := Try.f78
theorem H67 : Try.prog.funcs[N67]? = some F67 := Try.func78
@[reducible] def N74 : FuncId := 110
noncomputable abbrev F74 : Func := Try.f110
theorem H74 : Try.prog.funcs[N74]? = some F74 := Try.func110
@[reducible] def N84 : FuncId := 107
noncomputable abbrev F84 : Func := Try.f107
theorem H84 : Try.prog.funcs[N84]? = some F84 := Try.func107
@[reducible] def N86 : FuncId := 108
noncomputable abbrev F86 : Func := Try.f108
theorem H86 : Try.prog.funcs[N86]? = some F86 := Try.func108
@[reducible] def N88 : FuncId := 55
noncomputable abbrev F88 : Func := Try.f55
theorem H88 : Try.prog.funcs[N88]? = some F88 := Try.func55
@[reducible] def N92 : FuncId := 109
noncomputable abbrev F92 : Func := Try.f109
theorem H92 : Try.prog.funcs[N92]? = some F92 := Try.func109
@[reducible] def N98 : FuncId := 118
noncomputable abbrev F98 : Func := Try.f118
theorem H98 : Try.prog.funcs[N98]? = some F98 := Try.func118
@[reducible] def N101 : FuncId := 106
noncomputable abbrev F101 : Func := Try.f106
theorem H101 : Try.prog.funcs[N101]? = some F101 := Try.func106
@[reducible] def N103 : FuncId := 125
noncomputable abbrev F103 : Func := Try.f125
theorem H103 : Try.prog.funcs[N103]? = some F103 := Try.func125
@[reducible] def N104 : FuncId := 86
noncomputable abbrev F104 : Func := Try.f86
theorem H104 : Try.prog.funcs[N104]? = some F104 := Try.func86
@[reducible] def N106 : FuncId := 126
noncomputable abbrev F106 : Func := Try.f126
theorem H106 : Try.prog.funcs[N106]? = some F106 := Try.func126
@[reducible] def N118 : FuncId := 137
noncomputable abbrev F118 : Func := Try.f137
theorem H118 : Try.prog.funcs[N118]? = some F118 := Try.func137
@[reducible] def N119 : FuncId := 67
noncomputable abbrev F119 : Func := Try.f67
theorem H119 : Try.prog.funcs[N119]? = some F119 := Try.func67
@[reducible] def N121 : FuncId := 111
noncomputable abbrev F121 : Func := Try.f111
theorem H121 : Try.prog.funcs[N121]? = some F121 := Try.func111
@[reducible] def N125 : FuncId := 142
noncomputable abbrev F125 : Func := Try.f142
theorem H125 : Try.prog.funcs[N125]? = some F125 := Try.func142
@[reducible] def N126 : FuncId := 143
noncomputable abbrev F126 : Func := Try.f143
theorem H126 : Try.prog.funcs[N126]? = some F126 := Try.func143
@[reducible] def N303 : FuncId := 3
noncomputable abbrev F303 : Func := Try.f3
theorem H303 : Try.prog.funcs[N303]? = some F303 := Try.func3
@[reducible] def N304 : FuncId := 4
noncomputable abbrev F304 : Func := Try.f4
theorem H304 : Try.prog.funcs[N304]? = some F304 := Try.func4
@[reducible] def N305 : FuncId := 5
noncomputable abbrev F305 : Func := Try.f5
theorem H305 : Try.prog.funcs[N305]? = some F305 := Try.func5
@[reducible] def N306 : FuncId := 6
noncomputable abbrev F306 : Func := Try.f6
theorem H306 : Try.prog.funcs[N306]? = some F306 := Try.func6
@[reducible] def N307 : FuncId := 7
noncomputable abbrev F307 : Func := Try.f7
theorem H307 : Try.prog.funcs[N307]? = some F307 := Try.func7
@[reducible] def N308 : FuncId := 8
noncomputable abbrev F308 : Func := Try.f8
theorem H308 : Try.prog.funcs[N308]? = some F308 := Try.func8
@[reducible] def N309 : FuncId := 9
noncomputable abbrev F309 : Func := Try.f9
theorem H309 : Try.prog.funcs[N309]? = some F309 := Try.func9
@[reducible] def N310 : FuncId := 10
noncomputable abbrev F310 : Func := Try.f10
theorem H310 : Try.prog.funcs[N310]? = some F310 := Try.func10
@[reducible] def N311 : FuncId := 11
noncomputable abbrev F311 : Func := Try.f11
theorem H311 : Try.prog.funcs[N311]? = some F311 := Try.func11
@[reducible] def N312 : FuncId := 12
noncomputable abbrev F312 : Func := Try.f12
theorem H312 : Try.prog.funcs[N312]? = some F312 := Try.func12
@[reducible] def N314 : FuncId := 14
noncomputable abbrev F314 : Func := Try.f14
theorem H314 : Try.prog.funcs[N314]? = some F314 := Try.func14
@[reducible] def N315 : FuncId := 15
noncomputable abbrev F315 : Func := Try.f15
theorem H315 : Try.prog.funcs[N315]? = some F315 := Try.func15
@[reducible] def N316 : FuncId := 16
noncomputable abbrev F316 : Func := Try.f16
theorem H316 : Try.prog.funcs[N316]? = some F316 := Try.func16
@[reducible] def N317 : FuncId := 17
noncomputable abbrev F317 : Func := Try.f17
theorem H317 : Try.prog.funcs[N317]? = some F317 := Try.func17
@[reducible] def N318 : FuncId := 18
noncomputable abbrev F318 : Func := Try.f18
theorem H318 : Try.prog.funcs[N318]? = some F318 := Try.func18
@[reducible] def N319 : FuncId := 19
noncomputable abbrev F319 : Func := Try.f19
theorem H319 : Try.prog.funcs[N319]? = some F319 := Try.func19
@[reducible] def N320 : FuncId := 20
noncomputable abbrev F320 : Func := Try.f20
theorem H320 : Try.prog.funcs[N320]? = some F320 := Try.func20
@[reducible] def N322 : FuncId := 22
noncomputable abbrev F322 : Func := Try.f22
theorem H322 : Try.prog.funcs[N322]? = some F322 := Try.func22
@[reducible] def N323 : FuncId := 23
noncomputable abbrev F323 : Func := Try.f23
theorem H323 : Try.prog.funcs[N323]? = some F323 := Try.func23
@[reducible] def N324 : FuncId := 24
noncomputable abbrev F324 : Func := Try.f24
theorem H324 : Try.prog.funcs[N324]? = some F324 := Try.func24
@[reducible] def N325 : FuncId := 25
noncomputable abbrev F325 : Func := Try.f25
theorem H325 : Try.prog.funcs[N325]? = some F325 := Try.func25
@[reducible] def N326 : FuncId := 26
noncomputable abbrev F326 : Func := Try.f26
theorem H326 : Try.prog.funcs[N326]? = some F326 := Try.func26
@[reducible] def N327 : FuncId := 27
noncomputable abbrev F327 : Func := Try.f27
theorem H327 : Try.prog.funcs[N327]? = some F327 := Try.func27
@[reducible] def N328 : FuncId := 28
noncomputable abbrev F328 : Func := Try.f28
theorem H328 : Try.prog.funcs[N328]? = some F328 := Try.func28
@[reducible] def N329 : FuncId := 29
noncomputable abbrev F329 : Func := Try.f29
theorem H329 : Try.prog.funcs[N329]? = some F329 := Try.func29
@[reducible] def N330 : FuncId := 30
noncomputable abbrev F330 : Func := Try.f30
theorem H330 : Try.prog.funcs[N330]? = some F330 := Try.func30
@[reducible] def N331 : FuncId := 31
noncomputable abbrev F331 : Func := Try.f31
theorem H331 : Try.prog.funcs[N331]? = some F331 := Try.func31
@[reducible] def N332 : FuncId := 32
noncomputable abbrev F332 : Func := Try.f32
theorem H332 : Try.prog.funcs[N332]? = some F332 := Try.func32
@[reducible] def N333 : FuncId := 33
noncomputable abbrev F333 : Func := Try.f33
theorem H333 : Try.prog.funcs[N333]? = some F333 := Try.func33
@[reducible] def N334 : FuncId := 34
noncomputable abbrev F334 : Func := Try.f34
theorem H334 : Try.prog.funcs[N334]? = some F334 := Try.func34
@[reducible] def N335 : FuncId := 35
noncomputable abbrev F335 : Func := Try.f35
theorem H335 : Try.prog.funcs[N335]? = some F335 := Try.func35
@[reducible] def N336 : FuncId := 36
noncomputable abbrev F336 : Func := Try.f36
theorem H336 : Try.prog.funcs[N336]? = some F336 := Try.func36
@[reducible] def N337 : FuncId := 37
noncomputable abbrev F337 : Func := Try.f37
theorem H337 : Try.prog.funcs[N337]? = some F337 := Try.func37
@[reducible] def N338 : FuncId := 38
noncomputable abbrev F338 : Func := Try.f38
theorem H338 : Try.prog.funcs[N338]? = some F338 := Try.func38
@[reducible] def N339 : FuncId := 39
noncomputable abbrev F339 : Func := Try.f39
theorem H339 : Try.prog.funcs[N339]? = some F339 := Try.func39
@[reducible] def N340 : FuncId := 40
noncomputable abbrev F340 : Func := Try.f40
theorem H340 : Try.prog.funcs[N340]? = some F340 := Try.func40
@[reducible] def N341 : FuncId := 41
noncomputable abbrev F341 : Func := Try.f41
theorem H341 : Try.prog.funcs[N341]? = some F341 := Try.func41
@[reducible] def N342 : FuncId := 42
noncomputable abbrev F342 : Func := Try.f42
theorem H342 : Try.prog.funcs[N342]? = some F342 := Try.func42
@[reducible] def N343 : FuncId := 43
noncomputable abbrev F343 : Func := Try.f43
theorem H343 : Try.prog.funcs[N343]? = some F343 := Try.func43
@[reducible] def N344 : FuncId := 44
noncomputable abbrev F344 : Func := Try.f44
theorem H344 : Try.prog.funcs[N344]? = some F344 := Try.func44
@[reducible] def N345 : FuncId := 45
noncomputable abbrev F345 : Func := Try.f45
theorem H345 : Try.prog.funcs[N345]? = some F345 := Try.func45
@[reducible] def N346 : FuncId := 46
noncomputable abbrev F346 : Func := Try.f46
theorem H346 : Try.prog.funcs[N346]? = some F346 := Try.func46
@[reducible] def N347 : FuncId := 47
noncomputable abbrev F347 : Func := Try.f47
theorem H347 : Try.prog.funcs[N347]? = some F347 := Try.func47
@[reducible] def N348 : FuncId := 48
noncomputable abbrev F348 : Func := Try.f48
theorem H348 : Try.prog.funcs[N348]? = some F348 := Try.func48
@[reducible] def N349 : FuncId := 49
noncomputable abbrev F349 : Func := Try.f49
theorem H349 : Try.prog.funcs[N349]? = some F349 := Try.func49
@[reducible] def N351 : FuncId := 51
noncomputable abbrev F351 : Func := Try.f51
theorem H351 : Try.prog.funcs[N351]? = some F351 := Try.func51
@[reducible] def N352 : FuncId := 52
noncomputable abbrev F352 : Func := Try.f52
theorem H352 : Try.prog.funcs[N352]? = some F352 := Try.func52
@[reducible] def N353 : FuncId := 53
noncomputable abbrev F353 : Func := Try.f53
theorem H353 : Try.prog.funcs[N353]? = some F353 := Try.func53
@[reducible] def N354 : FuncId := 54
noncomputable abbrev F354 : Func := Try.f54
theorem H354 : Try.prog.funcs[N354]? = some F354 := Try.func54
@[reducible] def N356 : FuncId := 56
noncomputable abbrev F356 : Func := Try.f56
theorem H356 : Try.prog.funcs[N356]? = some F356 := Try.func56
@[reducible] def N357 : FuncId := 57
noncomputable abbrev F357 : Func := Try.f57
theorem H357 : Try.prog.funcs[N357]? = some F357 := Try.func57
@[reducible] def N358 : FuncId := 58
noncomputable abbrev F358 : Func := Try.f58
theorem H358 : Try.prog.funcs[N358]? = some F358 := Try.func58
@[reducible] def N359 : FuncId := 59
noncomputable abbrev F359 : Func := Try.f59
theorem H359 : Try.prog.funcs[N359]? = some F359 := Try.func59
@[reducible] def N360 : FuncId := 60
noncomputable abbrev F360 : Func := Try.f60
theorem H360 : Try.prog.funcs[N360]? = some F360 := Try.func60
@[reducible] def N361 : FuncId := 61
noncomputable abbrev F361 : Func := Try.f61
theorem H361 : Try.prog.funcs[N361]? = some F361 := Try.func61
@[reducible] def N362 : FuncId := 62
noncomputable abbrev F362 : Func := Try.f62
theorem H362 : Try.prog.funcs[N362]? = some F362 := Try.func62
@[reducible] def N363 : FuncId := 63
noncomputable abbrev F363 : Func := Try.f63
theorem H363 : Try.prog.funcs[N363]? = some F363 := Try.func63
@[reducible] def N364 : FuncId := 64
noncomputable abbrev F364 : Func := Try.f64
theorem H364 : Try.prog.funcs[N364]? = some F364 := Try.func64
@[reducible] def N365 : FuncId := 65
noncomputable abbrev F365 : Func := Try.f65
theorem H365 : Try.prog.funcs[N365]? = some F365 := Try.func65
@[reducible] def N366 : FuncId := 66
noncomputable abbrev F366 : Func := Try.f66
theorem H366 : Try.prog.funcs[N366]? = some F366 := Try.func66
@[reducible] def N368 : FuncId := 68
noncomputable abbrev F368 : Func := Try.f68
theorem H368 : Try.prog.funcs[N368]? = some F368 := Try.func68
@[reducible] def N369 : FuncId := 69
noncomputable abbrev F369 : Func := Try.f69
theorem H369 : Try.prog.funcs[N369]? = some F369 := Try.func69
@[reducible] def N370 : FuncId := 70
noncomputable abbrev F370 : Func := Try.f70
theorem H370 : Try.prog.funcs[N370]? = some F370 := Try.func70
@[reducible] def N371 : FuncId := 71
noncomputable abbrev F371 : Func := Try.f71
theorem H371 : Try.prog.funcs[N371]? = some F371 := Try.func71
@[reducible] def N372 : FuncId := 72
noncomputable abbrev F372 : Func := Try.f72
theorem H372 : Try.prog.funcs[N372]? = some F372 := Try.func72
@[reducible] def N373 : FuncId := 73
noncomputable abbrev F373 : Func := Try.f73
theorem H373 : Try.prog.funcs[N373]? = some F373 := Try.func73
@[reducible] def N374 : FuncId := 74
noncomputable abbrev F374 : Func := Try.f74
theorem H374 : Try.prog.funcs[N374]? = some F374 := Try.func74
@[reducible] def N375 : FuncId := 75
noncomputable abbrev F375 : Func := Try.f75
theorem H375 : Try.prog.funcs[N375]? = some F375 := Try.func75
@[reducible] def N376 : FuncId := 76
noncomputable abbrev F376 : Func := Try.f76
theorem H376 : Try.prog.funcs[N376]? = some F376 := Try.func76
@[reducible] def N377 : FuncId := 77
noncomputable abbrev F377 : Func := Try.f77
theorem H377 : Try.prog.funcs[N377]? = some F377 := Try.func77
@[reducible] def N379 : FuncId := 79
noncomputable abbrev F379 : Func := Try.f79
theorem H379 : Try.prog.funcs[N379]? = some F379 := Try.func79
@[reducible] def N385 : FuncId := 85
noncomputable abbrev F385 : Func := Try.f85
theorem H385 : Try.prog.funcs[N385]? = some F385 := Try.func85
@[reducible] def N387 : FuncId := 87
noncomputable abbrev F387 : Func := Try.f87
theorem H387 : Try.prog.funcs[N387]? = some F387 := Try.func87
@[reducible] def N388 : FuncId := 88
noncomputable abbrev F388 : Func := Try.f88
theorem H388 : Try.prog.funcs[N388]? = some F388 := Try.func88
@[reducible] def N389 : FuncId := 89
noncomputable abbrev F389 : Func := Try.f89
theorem H389 : Try.prog.funcs[N389]? = some F389 := Try.func89
@[reducible] def N390 : FuncId := 90
noncomputable abbrev F390 : Func := Try.f90
theorem H390 : Try.prog.funcs[N390]? = some F390 := Try.func90
@[reducible] def N391 : FuncId := 91
noncomputable abbrev F391 : Func := Try.f91
theorem H391 : Try.prog.funcs[N391]? = some F391 := Try.func91
@[reducible] def N392 : FuncId := 92
noncomputable abbrev F392 : Func := Try.f92
theorem H392 : Try.prog.funcs[N392]? = some F392 := Try.func92
@[reducible] def N393 : FuncId := 93
noncomputable abbrev F393 : Func := Try.f93
theorem H393 : Try.prog.funcs[N393]? = some F393 := Try.func93
@[reducible] def N394 : FuncId := 94
noncomputable abbrev F394 : Func := Try.f94
theorem H394 : Try.prog.funcs[N394]? = some F394 := Try.func94
@[reducible] def N395 : FuncId := 95
noncomputable abbrev F395 : Func := Try.f95
theorem H395 : Try.prog.funcs[N395]? = some F395 := Try.func95
@[reducible] def N396 : FuncId := 96
noncomputable abbrev F396 : Func := Try.f96
theorem H396 : Try.prog.funcs[N396]? = some F396 := Try.func96
@[reducible] def N397 : FuncId := 97
noncomputable abbrev F397 : Func := Try.f97
theorem H397 : Try.prog.funcs[N397]? = some F397 := Try.func97
@[reducible] def N398 : FuncId := 98
noncomputable abbrev F398 : Func := Try.f98
theorem H398 : Try.prog.funcs[N398]? = some F398 := Try.func98
@[reducible] def N399 : FuncId := 99
noncomputable abbrev F399 : Func := Try.f99
theorem H399 : Try.prog.funcs[N399]? = some F399 := Try.func99
@[reducible] def N400 : FuncId := 100
noncomputable abbrev F400 : Func := Try.f100
theorem H400 : Try.prog.funcs[N400]? = some F400 := Try.func100
@[reducible] def N401 : FuncId := 101
noncomputable abbrev F401 : Func := Try.f101
theorem H401 : Try.prog.funcs[N401]? = some F401 := Try.func101
@[reducible] def N402 : FuncId := 102
noncomputable abbrev F402 : Func := Try.f102
theorem H402 : Try.prog.funcs[N402]? = some F402 := Try.func102
@[reducible] def N403 : FuncId := 103
noncomputable abbrev F403 : Func := Try.f103
theorem H403 : Try.prog.funcs[N403]? = some F403 := Try.func103
@[reducible] def N404 : FuncId := 104
noncomputable abbrev F404 : Func := Try.f104
theorem H404 : Try.prog.funcs[N404]? = some F404 := Try.func104
@[reducible] def N405 : FuncId := 105
noncomputable abbrev F405 : Func := Try.f105
theorem H405 : Try.prog.funcs[N405]? = some F405 := Try.func105
@[reducible] def N412 : FuncId := 112
noncomputable abbrev F412 : Func := Try.f112
theorem H412 : Try.prog.funcs[N412]? = some F412 := Try.func112
@[reducible] def N413 : FuncId := 113
noncomputable abbrev F413 : Func := Try.f113
theorem H413 : Try.prog.funcs[N413]? = some F413 := Try.func113
@[reducible] def N414 : FuncId := 114
noncomputable abbrev F414 : Func := Try.f114
theorem H414 : Try.prog.funcs[N414]? = some F414 := Try.func114
@[reducible] def N415 : FuncId := 115
noncomputable abbrev F415 : Func := Try.f115
theorem H415 : Try.prog.funcs[N415]? = some F415 := Try.func115
@[reducible] def N416 : FuncId := 116
noncomputable abbrev F416 : Func := Try.f116
theorem H416 : Try.prog.funcs[N416]? = some F416 := Try.func116
@[reducible] def N417 : FuncId := 117
noncomputable abbrev F417 : Func := Try.f117
theorem H417 : Try.prog.funcs[N417]? = some F417 := Try.func117
@[reducible] def N419 : FuncId := 119
noncomputable abbrev F419 : Func := Try.f119
theorem H419 : Try.prog.funcs[N419]? = some F419 := Try.func119
@[reducible] def N420 : FuncId := 120
noncomputable abbrev F420 : Func := Try.f120
theorem H420 : Try.prog.funcs[N420]? = some F420 := Try.func120
@[reducible] def N421 : FuncId := 121
noncomputable abbrev F421 : Func := Try.f121
theorem H421 : Try.prog.funcs[N421]? = some F421 := Try.func121
@[reducible] def N422 : FuncId := 122
noncomputable abbrev F422 : Func := Try.f122
theorem H422 : Try.prog.funcs[N422]? = some F422 := Try.func122
@[reducible] def N423 : FuncId := 123
noncomputable abbrev F423 : Func := Try.f123
theorem H423 : Try.prog.funcs[N423]? = some F423 := Try.func123
@[reducible] def N424 : FuncId := 124
noncomputable abbrev F424 : Func := Try.f124
theorem H424 : Try.prog.funcs[N424]? = some F424 := Try.func124
@[reducible] def N427 : FuncId := 127
noncomputable abbrev F427 : Func := Try.f127
theorem H427 : Try.prog.funcs[N427]? = some F427 := Try.func127
@[reducible] def N428 : FuncId := 128
noncomputable abbrev F428 : Func := Try.f128
theorem H428 : Try.prog.funcs[N428]? = some F428 := Try.func128
@[reducible] def N429 : FuncId := 129
noncomputable abbrev F429 : Func := Try.f129
theorem H429 : Try.prog.funcs[N429]? = some F429 := Try.func129
@[reducible] def N430 : FuncId := 130
noncomputable abbrev F430 : Func := Try.f130
theorem H430 : Try.prog.funcs[N430]? = some F430 := Try.func130
@[reducible] def N431 : FuncId := 131
noncomputable abbrev F431 : Func := Try.f131
theorem H431 : Try.prog.funcs[N431]? = some F431 := Try.func131
@[reducible] def N432 : FuncId := 132
noncomputable abbrev F432 : Func := Try.f132
theorem H432 : Try.prog.funcs[N432]? = some F432 := Try.func132
@[reducible] def N433 : FuncId := 133
noncomputable abbrev F433 : Func := Try.f133
theorem H433 : Try.prog.funcs[N433]? = some F433 := Try.func133
@[reducible] def N434 : FuncId := 134
noncomputable abbrev F434 : Func := Try.f134
theorem H434 : Try.prog.funcs[N434]? = some F434 := Try.func134
@[reducible] def N435 : FuncId := 135
noncomputable abbrev F435 : Func := Try.f135
theorem H435 : Try.prog.funcs[N435]? = some F435 := Try.func135
@[reducible] def N436 : FuncId := 136
noncomputable abbrev F436 : Func := Try.f136
theorem H436 : Try.prog.funcs[N436]? = some F436 := Try.func136
@[reducible] def N438 : FuncId := 138
noncomputable abbrev F438 : Func := Try.f138
theorem H438 : Try.prog.funcs[N438]? = some F438 := Try.func138
@[reducible] def N439 : FuncId := 139
noncomputable abbrev F439 : Func := Try.f139
theorem H439 : Try.prog.funcs[N439]? = some F439 := Try.func139
@[reducible] def N440 : FuncId := 140
noncomputable abbrev F440 : Func := Try.f140
theorem H440 : Try.prog.funcs[N440]? = some F440 := Try.func140
@[reducible] def N441 : FuncId := 141
noncomputable abbrev F441 : Func := Try.f141
theorem H441 : Try.prog.funcs[N441]? = some F441 := Try.func141
@[reducible] def N444 : FuncId := 144
noncomputable abbrev F444 : Func := Try.f144
theorem H444 : Try.prog.funcs[N444]? = some F444 := Try.func144
@[reducible] def N445 : FuncId := 145
noncomputable abbrev F445 : Func := Try.f145
theorem H445 : Try.prog.funcs[N445]? = some F445 := Try.func145
@[reducible] def N446 : FuncId := 146
noncomputable abbrev F446 : Func := Try.f146
theorem H446 : Try.prog.funcs[N446]? = some F446 := Try.func146
@[reducible] def N447 : FuncId := 147
noncomputable abbrev F447 : Func := Try.f147
theorem H447 : Try.prog.funcs[N447]? = some F447 := Try.func147
end Go.AM.Seat
