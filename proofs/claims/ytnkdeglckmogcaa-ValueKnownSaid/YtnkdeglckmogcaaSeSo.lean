/- The seat: slices.Sort at []int. -/
import Derived.Test.YtnkdeglckmogcaaAmSort
import Derived.Test.YtnkdeglckmogcaaSeTab
set_option linter.unusedVariables false
set_option maxRecDepth 100000
namespace Go.AM.Seat
open Go Go.AM Go.Proofs Go.Shelf

def ρSo : Go.Shelf.Ren :=
{
  f := fun x =>
    match x with
    | 189 => 65
    | 125 => 98
    | 257 => 97
    | 128 => 118
    | 129 => 119
    | 294 => 110
    | 295 => 111
    | 296 => 112
    | 297 => 113
    | 298 => 114
    | 299 => 115
    | 216 => 99
    | 300 => 116
    | 301 => 117
    | 328 => 124
    | 329 => 125
    | 330 => 126
    | 331 => 127
    | 332 => 128
    | 215 => 120
    | 343 => 129
    | n => n,
  t := fun x =>
    match x with
    | 28 => 45
    | 3 => 3
    | 46 => 115
    | 0 => 0
    | 51 => 134
    | 53 => 23
    | 4 => 4
    | 183 => 128
    | 182 => 127
    | 131 => 87
    | 5 => 5
    | 9 => 9
    | 218 => 137
    | 222 => 141
    | 228 => 143
    | 229 => 144
    | n => n,
  g := fun n => n }
theorem laySo : Lays.n189 Try.prog ρSo :=
{ mixed := Eq.refl true, f125 := Eq.trans Try.func98 (congrArg some (Eq.refl (Body.n125 ρSo))),
  f128 := Eq.trans Try.func118 (congrArg some (Eq.refl (Body.n128 ρSo))),
  f129 := Eq.trans Try.func119 (congrArg some (Eq.refl (Body.n129 ρSo))),
  f189 := Eq.trans Try.func65 (congrArg some (Eq.refl (Body.n189 ρSo))),
  f215 := Eq.trans Try.func120 (congrArg some (Eq.refl (Body.n215 ρSo))),
  f216 := Eq.trans Try.func99 (congrArg some (Eq.refl (Body.n216 ρSo))),
  f257 := Eq.trans Try.func97 (congrArg some (Eq.refl (Body.n257 ρSo))),
  f294 := Eq.trans Try.func110 (congrArg some (Eq.refl (Body.n294 ρSo))),
  f295 := Eq.trans Try.func111 (congrArg some (Eq.refl (Body.n295 ρSo))),
  f296 := Eq.trans Try.func112 (congrArg some (Eq.refl (Body.n296 ρSo))),
  f297 := Eq.trans Try.func113 (congrArg some (Eq.refl (Body.n297 ρSo))),
  f298 := Eq.trans Try.func114 (congrArg some (Eq.refl (Body.n298 ρSo))),
  f299 := Eq.trans Try.func115 (congrArg some (Eq.refl (Body.n299 ρSo))),
  f300 := Eq.trans Try.func116 (congrArg some (Eq.refl (Body.n300 ρSo))),
  f301 := Eq.trans Try.func117 (congrArg some (Eq.refl (Body.n301 ρSo))),
  f328 := Eq.trans Try.func124 (congrArg some (Eq.refl (Body.n328 ρSo))),
  f329 := Eq.trans Try.func125 (congrArg some (Eq.refl (Body.n329 ρSo))),
  f330 := Eq.trans Try.func126 (congrArg some (Eq.refl (Body.n330 ρSo))),
  f331 := Eq.trans Try.func127 (congrArg some (Eq.refl (Body.n331 ρSo))),
  f332 := Eq.trans Try.func128 (congrArg some (Eq.refl (Body.n332 ρSo))),
  f343 := Eq.trans Try.func129 (congrArg some (Eq.refl (Body.n343 ρSo))), t0 := Try.underlying0,
  a0 := Try.isAgg0, z0 := Try.sizeOf0, v0 := Try.zeroValue0, t3 := Try.underlying3, a3 := Try.isAgg3, z3 := Try.sizeOf3,
  v3 := Try.zeroValue3, t4 := Try.underlying4, a4 := Try.isAgg4, z4 := Try.sizeOf4, v4 := Try.zeroValue4,
  t5 := Try.underlying5, a5 := Try.isAgg5, z5 := Try.sizeOf5, v5 := Try.zeroValue5, t9 := Try.underlying9,
  a9 := Try.isAgg9, z9 := Try.sizeOf9, v9 := Try.zeroValue9, t28 := Try.underlying45, a28 := Try.isAgg45,
  z28 := Try.sizeOf45, v28 := Try.zeroValue45, t46 := Try.underlying115, a46 := Try.isAgg115, z46 := Try.sizeOf115,
  v46 := Try.zeroValue115, t51 := Try.underlying134, a51 := Try.isAgg134, z51 := Try.sizeOf134, v51 := Try.zeroValue134,
  t53 := Try.underlying23, a53 := Try.isAgg23, z53 := Try.sizeOf23, v53 := Try.zeroValue23, t131 := Try.underlying87,
  a131 := Try.isAgg87, z131 := Try.sizeOf87, v131 := Try.zeroValue87, t182 := Try.underlying127, a182 := Try.isAgg127,
  z182 := Try.sizeOf127, v182 := Try.zeroValue127, t183 := Try.underlying128, a183 := Try.isAgg128,
  z183 := Try.sizeOf128, v183 := Try.zeroValue128, t218 := Try.underlying137, a218 := Try.isAgg137,
  z218 := Try.sizeOf137, v218 := Try.zeroValue137, t222 := Try.underlying141, a222 := Try.isAgg141,
  z222 := Try.sizeOf141, v222 := Try.zeroValue141, t228 := Try.underlying143, a228 := Try.isAgg143,
  z228 := Try.sizeOf143, v228 := Try.zeroValue143, t229 := Try.underlying144, a229 := Try.isAgg144,
  z229 := Try.sizeOf144, v229 := Try.zeroValue144 }
end Go.AM.Seat
