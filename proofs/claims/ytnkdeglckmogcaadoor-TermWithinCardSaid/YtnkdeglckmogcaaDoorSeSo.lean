/- The seat: slices.Sort at []int. -/
import Derived.Test.YtnkdeglckmogcaaDoorAmSort
import Derived.Test.YtnkdeglckmogcaaDoorSeTab
set_option linter.unusedVariables false
set_option maxRecDepth 100000
namespace Go.AM.Seat
open Go Go.AM Go.Proofs Go.Shelf

def ρSo : Go.Shelf.Ren :=
{
  f := fun x =>
    match x with
    | 189 => 37
    | 125 => 44
    | 257 => 43
    | 128 => 57
    | 129 => 58
    | 294 => 48
    | 295 => 49
    | 296 => 50
    | 297 => 51
    | 298 => 52
    | 299 => 53
    | 216 => 54
    | 300 => 55
    | 301 => 56
    | 328 => 61
    | 329 => 62
    | 330 => 63
    | 331 => 64
    | 332 => 65
    | 215 => 66
    | 343 => 71
    | n => n,
  t := fun x =>
    match x with
    | 28 => 39
    | 3 => 3
    | 46 => 71
    | 0 => 0
    | 51 => 82
    | 53 => 84
    | 4 => 4
    | 183 => 75
    | 182 => 74
    | 131 => 49
    | 5 => 5
    | 9 => 9
    | 218 => 87
    | 222 => 91
    | 228 => 97
    | 229 => 98
    | n => n,
  g := fun n => n }
theorem laySo : Lays.n189 Tryd.prog ρSo :=
{ mixed := Eq.refl true, f125 := Eq.trans Tryd.func44 (congrArg some (Eq.refl (Body.n125 ρSo))),
  f128 := Eq.trans Tryd.func57 (congrArg some (Eq.refl (Body.n128 ρSo))),
  f129 := Eq.trans Tryd.func58 (congrArg some (Eq.refl (Body.n129 ρSo))),
  f189 := Eq.trans Tryd.func37 (congrArg some (Eq.refl (Body.n189 ρSo))),
  f215 := Eq.trans Tryd.func66 (congrArg some (Eq.refl (Body.n215 ρSo))),
  f216 := Eq.trans Tryd.func54 (congrArg some (Eq.refl (Body.n216 ρSo))),
  f257 := Eq.trans Tryd.func43 (congrArg some (Eq.refl (Body.n257 ρSo))),
  f294 := Eq.trans Tryd.func48 (congrArg some (Eq.refl (Body.n294 ρSo))),
  f295 := Eq.trans Tryd.func49 (congrArg some (Eq.refl (Body.n295 ρSo))),
  f296 := Eq.trans Tryd.func50 (congrArg some (Eq.refl (Body.n296 ρSo))),
  f297 := Eq.trans Tryd.func51 (congrArg some (Eq.refl (Body.n297 ρSo))),
  f298 := Eq.trans Tryd.func52 (congrArg some (Eq.refl (Body.n298 ρSo))),
  f299 := Eq.trans Tryd.func53 (congrArg some (Eq.refl (Body.n299 ρSo))),
  f300 := Eq.trans Tryd.func55 (congrArg some (Eq.refl (Body.n300 ρSo))),
  f301 := Eq.trans Tryd.func56 (congrArg some (Eq.refl (Body.n301 ρSo))),
  f328 := Eq.trans Tryd.func61 (congrArg some (Eq.refl (Body.n328 ρSo))),
  f329 := Eq.trans Tryd.func62 (congrArg some (Eq.refl (Body.n329 ρSo))),
  f330 := Eq.trans Tryd.func63 (congrArg some (Eq.refl (Body.n330 ρSo))),
  f331 := Eq.trans Tryd.func64 (congrArg some (Eq.refl (Body.n331 ρSo))),
  f332 := Eq.trans Tryd.func65 (congrArg some (Eq.refl (Body.n332 ρSo))),
  f343 := Eq.trans Tryd.func71 (congrArg some (Eq.refl (Body.n343 ρSo))), t0 := Tryd.underlying0,
  a0 := Tryd.isAgg0, z0 := Tryd.sizeOf0, v0 := Tryd.zeroValue0, t3 := Tryd.underlying3, a3 := Tryd.isAgg3,
  z3 := Tryd.sizeOf3, v3 := Tryd.zeroValue3, t4 := Tryd.underlying4, a4 := Tryd.isAgg4, z4 := Tryd.sizeOf4,
  v4 := Tryd.zeroValue4, t5 := Tryd.underlying5, a5 := Tryd.isAgg5, z5 := Tryd.sizeOf5, v5 := Tryd.zeroValue5,
  t9 := Tryd.underlying9, a9 := Tryd.isAgg9, z9 := Tryd.sizeOf9, v9 := Tryd.zeroValue9, t28 := Tryd.underlying39,
  a28 := Tryd.isAgg39, z28 := Tryd.sizeOf39, v28 := Tryd.zeroValue39, t46 := Tryd.underlying71, a46 := Tryd.isAgg71,
  z46 := Tryd.sizeOf71, v46 := Tryd.zeroValue71, t51 := Tryd.underlying82, a51 := Tryd.isAgg82, z51 := Tryd.sizeOf82,
  v51 := Tryd.zeroValue82, t53 := Tryd.underlying84, a53 := Tryd.isAgg84, z53 := Tryd.sizeOf84, v53 := Tryd.zeroValue84,
  t131 := Tryd.underlying49, a131 := Tryd.isAgg49, z131 := Tryd.sizeOf49, v131 := Tryd.zeroValue49,
  t182 := Tryd.underlying74, a182 := Tryd.isAgg74, z182 := Tryd.sizeOf74, v182 := Tryd.zeroValue74,
  t183 := Tryd.underlying75, a183 := Tryd.isAgg75, z183 := Tryd.sizeOf75, v183 := Tryd.zeroValue75,
  t218 := Tryd.underlying87, a218 := Tryd.isAgg87, z218 := Tryd.sizeOf87, v218 := Tryd.zeroValue87,
  t222 := Tryd.underlying91, a222 := Tryd.isAgg91, z222 := Tryd.sizeOf91, v222 := Tryd.zeroValue91,
  t228 := Tryd.underlying97, a228 := Tryd.isAgg97, z228 := Tryd.sizeOf97, v228 := Tryd.zeroValue97,
  t229 := Tryd.underlying98, a229 := Tryd.isAgg98, z229 := Tryd.sizeOf98, v229 := Tryd.zeroValue98 }
end Go.AM.Seat
