/- The seat: slices.Sort at []int. -/
import Derived.Test.YtoeijiackpanoaaDoorAmSort
import Derived.Test.YtoeijiackpanoaaDoorSeTab
set_option linter.unusedVariables false
set_option maxRecDepth 100000
namespace Go.AM.Seat
open Go Go.AM Go.Proofs Go.Shelf

def ρSo : Go.Shelf.Ren :=
{
  f := fun x =>
    match x with
    | 189 => 68
    | 125 => 89
    | 257 => 88
    | 128 => 113
    | 129 => 66
    | 294 => 104
    | 295 => 105
    | 296 => 106
    | 297 => 107
    | 298 => 108
    | 299 => 109
    | 216 => 110
    | 300 => 111
    | 301 => 112
    | 328 => 119
    | 329 => 120
    | 330 => 121
    | 331 => 122
    | 332 => 123
    | 215 => 124
    | 343 => 129
    | n => n,
  t := fun x =>
    match x with
    | 28 => 44
    | 3 => 3
    | 46 => 42
    | 0 => 0
    | 51 => 141
    | 53 => 22
    | 4 => 4
    | 183 => 135
    | 182 => 134
    | 131 => 91
    | 5 => 5
    | 9 => 9
    | 218 => 145
    | 222 => 149
    | 228 => 155
    | 229 => 156
    | n => n,
  g := fun n => n }
theorem laySo : Lays.n189 Tryd.prog ρSo :=
{ mixed := Eq.refl true, f125 := Eq.trans Tryd.func89 (congrArg some (Eq.refl (Body.n125 ρSo))),
  f128 := Eq.trans Tryd.func113 (congrArg some (Eq.refl (Body.n128 ρSo))),
  f129 := Eq.trans Tryd.func66 (congrArg some (Eq.refl (Body.n129 ρSo))),
  f189 := Eq.trans Tryd.func68 (congrArg some (Eq.refl (Body.n189 ρSo))),
  f215 := Eq.trans Tryd.func124 (congrArg some (Eq.refl (Body.n215 ρSo))),
  f216 := Eq.trans Tryd.func110 (congrArg some (Eq.refl (Body.n216 ρSo))),
  f257 := Eq.trans Tryd.func88 (congrArg some (Eq.refl (Body.n257 ρSo))),
  f294 := Eq.trans Tryd.func104 (congrArg some (Eq.refl (Body.n294 ρSo))),
  f295 := Eq.trans Tryd.func105 (congrArg some (Eq.refl (Body.n295 ρSo))),
  f296 := Eq.trans Tryd.func106 (congrArg some (Eq.refl (Body.n296 ρSo))),
  f297 := Eq.trans Tryd.func107 (congrArg some (Eq.refl (Body.n297 ρSo))),
  f298 := Eq.trans Tryd.func108 (congrArg some (Eq.refl (Body.n298 ρSo))),
  f299 := Eq.trans Tryd.func109 (congrArg some (Eq.refl (Body.n299 ρSo))),
  f300 := Eq.trans Tryd.func111 (congrArg some (Eq.refl (Body.n300 ρSo))),
  f301 := Eq.trans Tryd.func112 (congrArg some (Eq.refl (Body.n301 ρSo))),
  f328 := Eq.trans Tryd.func119 (congrArg some (Eq.refl (Body.n328 ρSo))),
  f329 := Eq.trans Tryd.func120 (congrArg some (Eq.refl (Body.n329 ρSo))),
  f330 := Eq.trans Tryd.func121 (congrArg some (Eq.refl (Body.n330 ρSo))),
  f331 := Eq.trans Tryd.func122 (congrArg some (Eq.refl (Body.n331 ρSo))),
  f332 := Eq.trans Tryd.func123 (congrArg some (Eq.refl (Body.n332 ρSo))),
  f343 := Eq.trans Tryd.func129 (congrArg some (Eq.refl (Body.n343 ρSo))), t0 := Tryd.underlying0,
  a0 := Tryd.isAgg0, z0 := Tryd.sizeOf0, v0 := Tryd.zeroValue0, t3 := Tryd.underlying3, a3 := Tryd.isAgg3,
  z3 := Tryd.sizeOf3, v3 := Tryd.zeroValue3, t4 := Tryd.underlying4, a4 := Tryd.isAgg4, z4 := Tryd.sizeOf4,
  v4 := Tryd.zeroValue4, t5 := Tryd.underlying5, a5 := Tryd.isAgg5, z5 := Tryd.sizeOf5, v5 := Tryd.zeroValue5,
  t9 := Tryd.underlying9, a9 := Tryd.isAgg9, z9 := Tryd.sizeOf9, v9 := Tryd.zeroValue9, t28 := Tryd.underlying44,
  a28 := Tryd.isAgg44, z28 := Tryd.sizeOf44, v28 := Tryd.zeroValue44, t46 := Tryd.underlying42, a46 := Tryd.isAgg42,
  z46 := Tryd.sizeOf42, v46 := Tryd.zeroValue42, t51 := Tryd.underlying141, a51 := Tryd.isAgg141, z51 := Tryd.sizeOf141,
  v51 := Tryd.zeroValue141, t53 := Tryd.underlying22, a53 := Tryd.isAgg22, z53 := Tryd.sizeOf22,
  v53 := Tryd.zeroValue22, t131 := Tryd.underlying91, a131 := Tryd.isAgg91, z131 := Tryd.sizeOf91,
  v131 := Tryd.zeroValue91, t182 := Tryd.underlying134, a182 := Tryd.isAgg134, z182 := Tryd.sizeOf134,
  v182 := Tryd.zeroValue134, t183 := Tryd.underlying135, a183 := Tryd.isAgg135, z183 := Tryd.sizeOf135,
  v183 := Tryd.zeroValue135, t218 := Tryd.underlying145, a218 := Tryd.isAgg145, z218 := Tryd.sizeOf145,
  v218 := Tryd.zeroValue145, t222 := Tryd.underlying149, a222 := Tryd.isAgg149, z222 := Tryd.sizeOf149,
  v222 := Tryd.zeroValue149, t228 := Tryd.underlying155, a228 := Tryd.isAgg155, z228 := Tryd.sizeOf155,
  v228 := Tryd.zeroValue155, t229 := Tryd.underlying156, a229 := Tryd.isAgg156, z229 := Tryd.sizeOf156,
  v229 := Tryd.zeroValue156 }
end Go.AM.Seat
