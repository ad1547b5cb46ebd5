/- The seat: its table of types, and its numbers of functions. -/
import Derived.Test.YtkalaofppiifcaaAmTab
import Derived.Test.YtkalaofppiifcaaChecked
import Derived.Eval
import Derived.KernelRfl
set_option linter.unusedVariables false
namespace Go.AM.Seat
open Go Go.AM Go.Proofs

def tb : Tab := [
  (2, TI.scal (SV.int IntKind.i64 (Int.ofNat 0))),
  (3, TI.scal (SV.int IntKind.i64 (Int.ofNat 0))),
  (4, TI.scal (SV.bool false)),
  (5, TI.scal (SV.int IntKind.u8 (Int.ofNat 0))),
  (9, TI.scal (SV.str ByteArray.empty)),
  (13, TI.struct 2 [SV.str ByteArray.empty, SV.int IntKind.u64 (Int.ofNat 0)] [(0, 1, false), (1, 1, false)] none),
  (21, TI.scal (SV.int IntKind.i32 (Int.ofNat 0))),
  (22, TI.slice 23 (Ty.int IntKind.u64) 8),
  (23, TI.scal (SV.int IntKind.u64 (Int.ofNat 0))),
  (25, TI.slice 38 ((Ty.int IntKind.u64).pair (Ty.int IntKind.u64)) 16),
  (26, TI.scal (SV.int IntKind.i64 (Int.ofNat 0))),
  (34, TI.slice 3 (Ty.int IntKind.i64) 8),
  (37, TI.struct 2 [SV.int IntKind.u64 (Int.ofNat 0), SV.int IntKind.u64 (Int.ofNat 0)] [(0, 1, false), (1, 1, false)] (some [CK.int IntKind.u64, CK.int IntKind.u64])),
  (38, TI.struct 2 [SV.int IntKind.u64 (Int.ofNat 0), SV.int IntKind.u64 (Int.ofNat 0)] [(0, 1, false), (1, 1, false)] (some [CK.int IntKind.u64, CK.int IntKind.u64])),
  (63, TI.scal SV.nilp),
  (64, TI.struct 3 [SV.int IntKind.i64 (Int.ofNat 0), SV.nils, SV.nils] [(0, 1, false), (1, 1, false), (2, 1, false)] none),
  (65, TI.struct 3 [SV.int IntKind.i64 (Int.ofNat 0), SV.nils, SV.nils] [(0, 1, false), (1, 1, false), (2, 1, false)] none),
  (80, TI.struct 2 [SV.int IntKind.u64 (Int.ofNat 0), SV.int IntKind.u64 (Int.ofNat 0)] [(0, 1, false), (1, 1, false)] (some [CK.int IntKind.u64, CK.int IntKind.u64])),
  (81, TI.struct 2 [SV.int IntKind.u64 (Int.ofNat 0), SV.int IntKind.u64 (Int.ofNat 0)] [(0, 1, false), (1, 1, false)] (some [CK.int IntKind.u64, CK.int IntKind.u64])),
  (97, TI.scal (SV.int IntKind.u64 (Int.ofNat 0))),
  (110, TI.scal (SV.int IntKind.i64 (Int.ofNat 0))),
  (117, TI.scal (SV.int IntKind.u32 (Int.ofNat 0))),
  (120, TI.scal (SV.int IntKind.u64 (Int.ofNat 0))),
  (126, TI.slice 22 (Ty.int IntKind.u64).sl 24)]
def tbTypes : List TypeId := [2, 3, 4, 5, 9, 13, 21, 22, 23, 25, 26, 34, 37, 38, 63, 64, 65, 80, 81, 97, 110, 117, 120, 126]

theorem tbOk : TabOk Try.prog tb := mkTab_ok (Ts := tbTypes) (by kernel_rfl)
theorem mixed : Try.prog.follows .mixedOrders = true := Try.checked.mixed

@[reducible] def N31 : FuncId := 9
noncomputable abbrev F31 : Func := Try.f9
theorem H31 : Try.prog.funcs[N31]? = some F31 := Try.func9
@[reducible] def N98 : FuncId := 60
noncomputable abbrev F98 : Func := Try.f60
theorem H98 : Try.prog.funcs[N98]? = some F98 := Try.func60
@[reducible] def N118 : FuncId := 81
noncomputable abbrev F118 : Func := Try.f81
theorem H118 : Try.prog.funcs[N118]? = some F118 := Try.func81
@[reducible] def N119 : FuncId := 68
noncomputable abbrev F119 : Func := Try.f68
theorem H119 : Try.prog.funcs[N119]? = some F119 := Try.func68
@[reducible] def N125 : FuncId := 88
noncomputable abbrev F125 : Func := Try.f88
theorem H125 : Try.prog.funcs[N125]? = some F125 := Try.func88
@[reducible] def N126 : FuncId := 89
noncomputable abbrev F126 : Func := Try.f89
theorem H126 : Try.prog.funcs[N126]? = some F126 := Try.func89
@[reducible] def N307 : FuncId := 3
noncomputable abbrev F307 : Func := Try.f3
theorem H307 : Try.prog.funcs[N307]? = some F307 := Try.func3
@[reducible] def N308 : FuncId := 4
noncomputable abbrev F308 : Func := Try.f4
theorem H308 : Try.prog.funcs[N308]? = some F308 := Try.func4
@[reducible] def N309 : FuncId := 8
noncomputable abbrev F309 : Func := Try.f8
theorem H309 : Try.prog.funcs[N309]? = some F309 := Try.func8
@[reducible] def N310 : FuncId := 22
noncomputable abbrev F310 : Func := Try.f22
theorem H310 : Try.prog.funcs[N310]? = some F310 := Try.func22
@[reducible] def N311 : FuncId := 25
noncomputable abbrev F311 : Func := Try.f25
theorem H311 : Try.prog.funcs[N311]? = some F311 := Try.func25
@[reducible] def N312 : FuncId := 20
noncomputable abbrev F312 : Func := Try.f20
theorem H312 : Try.prog.funcs[N312]? = some F312 := Try.func20
@[reducible] def N315 : FuncId := 6
noncomputable abbrev F315 : Func := Try.f6
theorem H315 : Try.prog.funcs[N315]? = some F315 := Try.func6
@[reducible] def N318 : FuncId := 23
noncomputable abbrev F318 : Func := Try.f23
theorem H318 : Try.prog.funcs[N318]? = some F318 := Try.func23
@[reducible] def N322 : FuncId := 5
noncomputable abbrev F322 : Func := Try.f5
theorem H322 : Try.prog.funcs[N322]? = some F322 := Try.func5
@[reducible] def N323 : FuncId := 7
noncomputable abbrev F323 : Func := Try.f7
theorem H323 : Try.prog.funcs[N323]? = some F323 := Try.func7
@[reducible] def N324 : FuncId := 24
noncomputable abbrev F324 : Func := Try.f24
theorem H324 : Try.prog.funcs[N324]? = some F324 := Try.func24
@[reducible] def N325 : FuncId := 26
noncomputable abbrev F325 : Func := Try.f26
theorem H325 : Try.prog.funcs[N325]? = some F325 := Try.func26
@[reducible] def N326 : FuncId := 47
noncomputable abbrev F326 : Func := Try.f47
theorem H326 : Try.prog.funcs[N326]? = some F326 := Try.func47
@[reducible] def N327 : FuncId := 35
noncomputable abbrev F327 : Func := Try.f35
theorem H327 : Try.prog.funcs[N327]? = some F327 := Try.func35
@[reducible] def N328 : FuncId := 50
noncomputable abbrev F328 : Func := Try.f50
theorem H328 : Try.prog.funcs[N328]? = some F328 := Try.func50
@[reducible] def N329 : FuncId := 51
noncomputable abbrev F329 : Func := Try.f51
theorem H329 : Try.prog.funcs[N329]? = some F329 := Try.func51
@[reducible] def N330 : FuncId := 52
noncomputable abbrev F330 : Func := Try.f52
theorem H330 : Try.prog.funcs[N330]? = some F330 := Try.func52
@[reducible] def N331 : FuncId := 44
noncomputable abbrev F331 : Func := Try.f44
theorem H331 : Try.prog.funcs[N331]? = some F331 := Try.func44
@[reducible] def N332 : FuncId := 45
noncomputable abbrev F332 : Func := Try.f45
theorem H332 : Try.prog.funcs[N332]? = some F332 := Try.func45
@[reducible] def N333 : FuncId := 46
noncomputable abbrev F333 : Func := Try.f46
theorem H333 : Try.prog.funcs[N333]? = some F333 := Try.func46
@[reducible] def N339 : FuncId := 15
noncomputable abbrev F339 : Func := Try.f15
theorem H339 : Try.prog.funcs[N339]? = some F339 := Try.func15
@[reducible] def N340 : FuncId := 16
noncomputable abbrev F340 : Func := Try.f16
theorem H340 : Try.prog.funcs[N340]? = some F340 := Try.func16
@[reducible] def N341 : FuncId := 17
noncomputable abbrev F341 : Func := Try.f17
theorem H341 : Try.prog.funcs[N341]? = some F341 := Try.func17
@[reducible] def N342 : FuncId := 18
noncomputable abbrev F342 : Func := Try.f18
theorem H342 : Try.prog.funcs[N342]? = some F342 := Try.func18
@[reducible] def N343 : FuncId := 19
noncomputable abbrev F343 : Func := Try.f19
theorem H343 : Try.prog.funcs[N343]? = some F343 := Try.func19
@[reducible] def N348 : FuncId := 10
noncomputable abbrev F348 : Func := Try.f10
theorem H348 : Try.prog.funcs[N348]? = some F348 := Try.func10
@[reducible] def N356 : FuncId := 11
noncomputable abbrev F356 : Func := Try.f11
theorem H356 : Try.prog.funcs[N356]? = some F356 := Try.func11
@[reducible] def N357 : FuncId := 12
noncomputable abbrev F357 : Func := Try.f12
theorem H357 : Try.prog.funcs[N357]? = some F357 := Try.func12
@[reducible] def N358 : FuncId := 13
noncomputable abbrev F358 : Func := Try.f13
theorem H358 : Try.prog.funcs[N358]? = some F358 := Try.func13
@[reducible] def N359 : FuncId := 14
noncomputable abbrev F359 : Func := Try.f14
theorem H359 : Try.prog.funcs[N359]? = some F359 := Try.func14
@[reducible] def N360 : FuncId := 21
noncomputable abbrev F360 : Func := Try.f21
theorem H360 : Try.prog.funcs[N360]? = some F360 := Try.func21
@[reducible] def N361 : FuncId := 48
noncomputable abbrev F361 : Func := Try.f48
theorem H361 : Try.prog.funcs[N361]? = some F361 := Try.func48
@[reducible] def N362 : FuncId := 49
noncomputable abbrev F362 : Func := Try.f49
theorem H362 : Try.prog.funcs[N362]? = some F362 := Try.func49
@[reducible] def N363 : FuncId := 37
noncomputable abbrev F363 : Func := Try.f37
theorem H363 : Try.prog.funcs[N363]? = some F363 := Try.func37
@[reducible] def N364 : FuncId := 67
noncomputable abbrev F364 : Func := Try.f67
theorem H364 : Try.prog.funcs[N364]? = some F364 := Try.func67
@[reducible] def N365 : FuncId := 36
noncomputable abbrev F365 : Func := Try.f36
theorem H365 : Try.prog.funcs[N365]? = some F365 := Try.func36
@[reducible] def N366 : FuncId := 27
noncomputable abbrev F366 : Func := Try.f27
theorem H366 : Try.prog.funcs[N366]? = some F366 := Try.func27
@[reducible] def N368 : FuncId := 65
noncomputable abbrev F368 : Func := Try.f65
theorem H368 : Try.prog.funcs[N368]? = some F368 := Try.func65
@[reducible] def N369 : FuncId := 66
noncomputable abbrev F369 : Func := Try.f66
theorem H369 : Try.prog.funcs[N369]? = some F369 := Try.func66
@[reducible] def N375 : FuncId := 43
noncomputable abbrev F375 : Func := Try.f43
theorem H375 : Try.prog.funcs[N375]? = some F375 := Try.func43
@[reducible] def N387 : FuncId := 28
noncomputable abbrev F387 : Func := Try.f28
theorem H387 : Try.prog.funcs[N387]? = some F387 := Try.func28
@[reducible] def N388 : FuncId := 29
noncomputable abbrev F388 : Func := Try.f29
theorem H388 : Try.prog.funcs[N388]? = some F388 := Try.func29
@[reducible] def N389 : FuncId := 30
noncomputable abbrev F389 : Func := Try.f30
theorem H389 : Try.prog.funcs[N389]? = some F389 := Try.func30
@[reducible] def N390 : FuncId := 31
noncomputable abbrev F390 : Func := Try.f31
theorem H390 : Try.prog.funcs[N390]? = some F390 := Try.func31
@[reducible] def N391 : FuncId := 32
noncomputable abbrev F391 : Func := Try.f32
theorem H391 : Try.prog.funcs[N391]? = some F391 := Try.func32
@[reducible] def N392 : FuncId := 33
noncomputable abbrev F392 : Func := Try.f33
theorem H392 : Try.prog.funcs[N392]? = some F392 := Try.func33
@[reducible] def N393 : FuncId := 34
noncomputable abbrev F393 : Func := Try.f34
theorem H393 : Try.prog.funcs[N393]? = some F393 := Try.func34
@[reducible] def N394 : FuncId := 38
noncomputable abbrev F394 : Func := Try.f38
theorem H394 : Try.prog.funcs[N394]? = some F394 := Try.func38
@[reducible] def N395 : FuncId := 39
noncomputable abbrev F395 : Func := Try.f39
theorem H395 : Try.prog.funcs[N395]? = some F395 := Try.func39
@[reducible] def N396 : FuncId := 40
noncomputable abbrev F396 : Func := Try.f40
theorem H396 : Try.prog.funcs[N396]? = some F396 := Try.func40
@[reducible] def N397 : FuncId := 41
noncomputable abbrev F397 : Func := Try.f41
theorem H397 : Try.prog.funcs[N397]? = some F397 := Try.func41
@[reducible] def N398 : FuncId := 42
noncomputable abbrev F398 : Func := Try.f42
theorem H398 : Try.prog.funcs[N398]? = some F398 := Try.func42
@[reducible] def N399 : FuncId := 61
noncomputable abbrev F399 : Func := Try.f61
theorem H399 : Try.prog.funcs[N399]? = some F399 := Try.func61
@[reducible] def N400 : FuncId := 53
noncomputable abbrev F400 : Func := Try.f53
theorem H400 : Try.prog.funcs[N400]? = some F400 := Try.func53
@[reducible] def N401 : FuncId := 69
noncomputable abbrev F401 : Func := Try.f69
theorem H401 : Try.prog.funcs[N401]? = some F401 := Try.func69
@[reducible] def N402 : FuncId := 71
noncomputable abbrev F402 : Func := Try.f71
theorem H402 : Try.prog.funcs[N402]? = some F402 := Try.func71
@[reducible] def N412 : FuncId := 54
noncomputable abbrev F412 : Func := Try.f54
theorem H412 : Try.prog.funcs[N412]? = some F412 := Try.func54
@[reducible] def N413 : FuncId := 55
noncomputable abbrev F413 : Func := Try.f55
theorem H413 : Try.prog.funcs[N413]? = some F413 := Try.func55
@[reducible] def N414 : FuncId := 56
noncomputable abbrev F414 : Func := Try.f56
theorem H414 : Try.prog.funcs[N414]? = some F414 := Try.func56
@[reducible] def N415 : FuncId := 57
noncomputable abbrev F415 : Func := Try.f57
theorem H415 : Try.prog.funcs[N415]? = some F415 := Try.func57
@[reducible] def N416 : FuncId := 58
noncomputable abbrev F416 : Func := Try.f58
theorem H416 : Try.prog.funcs[N416]? = some F416 := Try.func58
@[reducible] def N417 : FuncId := 59
noncomputable abbrev F417 : Func := Try.f59
theorem H417 : Try.prog.funcs[N417]? = some F417 := Try.func59
@[reducible] def N419 : FuncId := 62
noncomputable abbrev F419 : Func := Try.f62
theorem H419 : Try.prog.funcs[N419]? = some F419 := Try.func62
@[reducible] def N420 : FuncId := 63
noncomputable abbrev F420 : Func := Try.f63
theorem H420 : Try.prog.funcs[N420]? = some F420 := Try.func63
@[reducible] def N421 : FuncId := 64
noncomputable abbrev F421 : Func := Try.f64
theorem H421 : Try.prog.funcs[N421]? = some F421 := Try.func64
@[reducible] def N422 : FuncId := 85
noncomputable abbrev F422 : Func := Try.f85
theorem H422 : Try.prog.funcs[N422]? = some F422 := Try.func85
@[reducible] def N423 : FuncId := 86
noncomputable abbrev F423 : Func := Try.f86
theorem H423 : Try.prog.funcs[N423]? = some F423 := Try.func86
@[reducible] def N427 : FuncId := 70
noncomputable abbrev F427 : Func := Try.f70
theorem H427 : Try.prog.funcs[N427]? = some F427 := Try.func70
@[reducible] def N428 : FuncId := 72
noncomputable abbrev F428 : Func := Try.f72
theorem H428 : Try.prog.funcs[N428]? = some F428 := Try.func72
@[reducible] def N429 : FuncId := 73
noncomputable abbrev F429 : Func := Try.f73
theorem H429 : Try.prog.funcs[N429]? = some F429 := Try.func73
@[reducible] def N430 : FuncId := 74
noncomputable abbrev F430 : Func := Try.f74
theorem H430 : Try.prog.funcs[N430]? = some F430 := Try.func74
@[reducible] def N431 : FuncId := 75
noncomputable abbrev F431 : Func := Try.f75
theorem H431 : Try.prog.funcs[N431]? = some F431 := Try.func75
@[reducible] def N432 : FuncId := 76
noncomputable abbrev F432 : Func := Try.f76
theorem H432 : Try.prog.funcs[N432]? = some F432 := Try.func76
@[reducible] def N433 : FuncId := 77
noncomputable abbrev F433 : Func := Try.f77
theorem H433 : Try.prog.funcs[N433]? = some F433 := Try.func77
@[reducible] def N434 : FuncId := 78
noncomputable abbrev F434 : Func := Try.f78
theorem H434 : Try.prog.funcs[N434]? = some F434 := Try.func78
@[reducible] def N435 : FuncId := 79
noncomputable abbrev F435 : Func := Try.f79
theorem H435 : Try.prog.funcs[N435]? = some F435 := Try.func79
@[reducible] def N436 : FuncId := 80
noncomputable abbrev F436 : Func := Try.f80
theorem H436 : Try.prog.funcs[N436]? = some F436 := Try.func80
@[reducible] def N438 : FuncId := 82
noncomputable abbrev F438 : Func := Try.f82
theorem H438 : Try.prog.funcs[N438]? = some F438 := Try.func82
@[reducible] def N439 : FuncId := 83
noncomputable abbrev F439 : Func := Try.f83
theorem H439 : Try.prog.funcs[N439]? = some F439 := Try.func83
@[reducible] def N440 : FuncId := 84
noncomputable abbrev F440 : Func := Try.f84
theorem H440 : Try.prog.funcs[N440]? = some F440 := Try.func84
@[reducible] def N441 : FuncId := 87
noncomputable abbrev F441 : Func := Try.f87
theorem H441 : Try.prog.funcs[N441]? = some F441 := Try.func87
@[reducible] def N444 : FuncId := 90
noncomputable abbrev F444 : Func := Try.f90
theorem H444 : Try.prog.funcs[N444]? = some F444 := Try.func90
@[reducible] def N445 : FuncId := 91
noncomputable abbrev F445 : Func := Try.f91
theorem H445 : Try.prog.funcs[N445]? = some F445 := Try.func91
@[reducible] def N446 : FuncId := 92
noncomputable abbrev F446 : Func := Try.f92
theorem H446 : Try.prog.funcs[N446]? = some F446 := Try.func92
@[reducible] def N447 : FuncId := 93
noncomputable abbrev F447 : Func := Try.f93
theorem H447 : Try.prog.funcs[N447]? = some F447 := Try.func93
@[reducible] def intsT : TypeId := 34
end Go.AM.Seat
