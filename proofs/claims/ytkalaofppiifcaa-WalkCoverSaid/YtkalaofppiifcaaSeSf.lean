/- The seat: where a contract of the kit on a library function lies (SlLaysF0.n6 6). -/
import Derived.Shelf.SlSortCmp.NoneTotal
import Derived.Test.YtkalaofppiifcaaAmSortQ
import Derived.Test.YtkalaofppiifcaaSeTab
set_option linter.unusedVariables false
set_option maxRecDepth 100000
namespace Go.AM.Seat
open Go Go.AM Go.Proofs Go.Shelf

def ρSf : Go.Shelf.Ren :=
{
  f := fun x =>
    match x with
    | 6 => 33
    | 15 => 60
    | 14 => 59
    | 28 => 81
    | 29 => 68
    | 20 => 73
    | 21 => 74
    | 22 => 75
    | 23 => 76
    | 24 => 77
    | 25 => 78
    | 26 => 79
    | 27 => 80
    | 46 => 87
    | 47 => 88
    | 48 => 89
    | 49 => 90
    | 50 => 91
    | 57 => 93
    | n => n,
  t := fun x =>
    match x with
    | 22 => 25
    | 24 => 38
    | 25 => 68
    | 3 => 3
    | 39 => 97
    | 0 => 0
    | 53 => 117
    | 55 => 23
    | 4 => 4
    | 46 => 111
    | 45 => 110
    | 50 => 106
    | 5 => 5
    | 9 => 9
    | 66 => 120
    | 70 => 124
    | 76 => 128
    | 77 => 129
    | n => n,
  g := fun n => n }
theorem laySf : SlLaysF0.n6 Try.prog ρSf :=
{ mixed := Eq.refl true,
  f6 :=
    Exists.intro "slices.SortFunc[[]medlar/api.Subset,medlar/api.Subset]"
      ⟨of_decide_eq_true (id (Eq.refl true)),
        Eq.trans Try.func33
          (congrArg some
            (Eq.refl (α := Func)
              { name := "slices.SortFunc[[]medlar/api.Subset,medlar/api.Subset]",
                origin := (SlBodyF.n6 ρSf).origin, targs := (SlBodyF.n6 ρSf).targs,
                params := (SlBodyF.n6 ρSf).params, resultTypes := (SlBodyF.n6 ρSf).resultTypes,
                nfree := (SlBodyF.n6 ρSf).nfree, ntmps := (SlBodyF.n6 ρSf).ntmps,
                results := (SlBodyF.n6 ρSf).results, body := (SlBodyF.n6 ρSf).body,
                norace := (SlBodyF.n6 ρSf).norace, ours := (SlBodyF.n6 ρSf).ours,
                file := (SlBodyF.n6 ρSf).file, endLine := (SlBodyF.n6 ρSf).endLine,
                litNo := (SlBodyF.n6 ρSf).litNo, met := (SlBodyF.n6 ρSf).met,
                tmpNames := (SlBodyF.n6 ρSf).tmpNames }))⟩,
  f14 :=
    Exists.intro "slices.pdqsortCmpFunc[medlar/api.Subset]"
      ⟨of_decide_eq_true (id (Eq.refl true)),
        Eq.trans Try.func59
          (congrArg some
            (Eq.refl (α := Func)
              { name := "slices.pdqsortCmpFunc[medlar/api.Subset]", origin := (SlBodyF.n14 ρSf).origin,
                targs := (SlBodyF.n14 ρSf).targs, params := (SlBodyF.n14 ρSf).params,
                resultTypes := (SlBodyF.n14 ρSf).resultTypes, nfree := (SlBodyF.n14 ρSf).nfree,
                ntmps := (SlBodyF.n14 ρSf).ntmps, results := (SlBodyF.n14 ρSf).results,
                body := (SlBodyF.n14 ρSf).body, norace := (SlBodyF.n14 ρSf).norace,
                ours := (SlBodyF.n14 ρSf).ours, file := (SlBodyF.n14 ρSf).file,
                endLine := (SlBodyF.n14 ρSf).endLine, litNo := (SlBodyF.n14 ρSf).litNo,
                met := (SlBodyF.n14 ρSf).met, tmpNames := (SlBodyF.n14 ρSf).tmpNames }))⟩,
  f15 := Eq.trans Try.func60 (congrArg some (Eq.refl (SlBodyF.n15 ρSf))),
  f20 :=
    Exists.intro "slices.insertionSortCmpFunc[medlar/api.Subset]"
      ⟨of_decide_eq_true (id (Eq.refl true)),
        Eq.trans Try.func73
          (congrArg some
            (Eq.refl (α := Func)
              { name := "slices.insertionSortCmpFunc[medlar/api.Subset]", origin := (SlBodyF.n20 ρSf).origin,
                targs := (SlBodyF.n20 ρSf).targs, params := (SlBodyF.n20 ρSf).params,
                resultTypes := (SlBodyF.n20 ρSf).resultTypes, nfree := (SlBodyF.n20 ρSf).nfree,
                ntmps := (SlBodyF.n20 ρSf).ntmps, results := (SlBodyF.n20 ρSf).results,
                body := (SlBodyF.n20 ρSf).body, norace := (SlBodyF.n20 ρSf).norace,
                ours := (SlBodyF.n20 ρSf).ours, file := (SlBodyF.n20 ρSf).file,
                endLine := (SlBodyF.n20 ρSf).endLine, litNo := (SlBodyF.n20 ρSf).litNo,
                met := (SlBodyF.n20 ρSf).met, tmpNames := (SlBodyF.n20 ρSf).tmpNames }))⟩,
  f21 :=
    Exists.intro "slices.heapSortCmpFunc[medlar/api.Subset]"
      ⟨of_decide_eq_true (id (Eq.refl true)),
        Eq.trans Try.func74
          (congrArg some
            (Eq.refl (α := Func)
              { name := "slices.heapSortCmpFunc[medlar/api.Subset]", origin := (SlBodyF.n21 ρSf).origin,
                targs := (SlBodyF.n21 ρSf).targs, params := (SlBodyF.n21 ρSf).params,
                resultTypes := (SlBodyF.n21 ρSf).resultTypes, nfree := (SlBodyF.n21 ρSf).nfree,
                ntmps := (SlBodyF.n21 ρSf).ntmps, results := (SlBodyF.n21 ρSf).results,
                body := (SlBodyF.n21 ρSf).body, norace := (SlBodyF.n21 ρSf).norace,
                ours := (SlBodyF.n21 ρSf).ours, file := (SlBodyF.n21 ρSf).file,
                endLine := (SlBodyF.n21 ρSf).endLine, litNo := (SlBodyF.n21 ρSf).litNo,
                met := (SlBodyF.n21 ρSf).met, tmpNames := (SlBodyF.n21 ρSf).tmpNames }))⟩,
  f22 :=
    Exists.intro "slices.breakPatternsCmpFunc[medlar/api.Subset]"
      ⟨of_decide_eq_true (id (Eq.refl true)),
        Eq.trans Try.func75
          (congrArg some
            (Eq.refl (α := Func)
              { name := "slices.breakPatternsCmpFunc[medlar/api.Subset]", origin := (SlBodyF.n22 ρSf).origin,
                targs := (SlBodyF.n22 ρSf).targs, params := (SlBodyF.n22 ρSf).params,
                resultTypes := (SlBodyF.n22 ρSf).resultTypes, nfree := (SlBodyF.n22 ρSf).nfree,
                ntmps := (SlBodyF.n22 ρSf).ntmps, results := (SlBodyF.n22 ρSf).results,
                body := (SlBodyF.n22 ρSf).body, norace := (SlBodyF.n22 ρSf).norace,
                ours := (SlBodyF.n22 ρSf).ours, file := (SlBodyF.n22 ρSf).file,
                endLine := (SlBodyF.n22 ρSf).endLine, litNo := (SlBodyF.n22 ρSf).litNo,
                met := (SlBodyF.n22 ρSf).met, tmpNames := (SlBodyF.n22 ρSf).tmpNames }))⟩,
  f23 :=
    Exists.intro "slices.choosePivotCmpFunc[medlar/api.Subset]"
      ⟨of_decide_eq_true (id (Eq.refl true)),
        Eq.trans Try.func76
          (congrArg some
            (Eq.refl (α := Func)
              { name := "slices.choosePivotCmpFunc[medlar/api.Subset]", origin := (SlBodyF.n23 ρSf).origin,
                targs := (SlBodyF.n23 ρSf).targs, params := (SlBodyF.n23 ρSf).params,
                resultTypes := (SlBodyF.n23 ρSf).resultTypes, nfree := (SlBodyF.n23 ρSf).nfree,
                ntmps := (SlBodyF.n23 ρSf).ntmps, results := (SlBodyF.n23 ρSf).results,
                body := (SlBodyF.n23 ρSf).body, norace := (SlBodyF.n23 ρSf).norace,
                ours := (SlBodyF.n23 ρSf).ours, file := (SlBodyF.n23 ρSf).file,
                endLine := (SlBodyF.n23 ρSf).endLine, litNo := (SlBodyF.n23 ρSf).litNo,
                met := (SlBodyF.n23 ρSf).met, tmpNames := (SlBodyF.n23 ρSf).tmpNames }))⟩,
  f24 :=
    Exists.intro "slices.reverseRangeCmpFunc[medlar/api.Subset]"
      ⟨of_decide_eq_true (id (Eq.refl true)),
        Eq.trans Try.func77
          (congrArg some
            (Eq.refl (α := Func)
              { name := "slices.reverseRangeCmpFunc[medlar/api.Subset]", origin := (SlBodyF.n24 ρSf).origin,
                targs := (SlBodyF.n24 ρSf).targs, params := (SlBodyF.n24 ρSf).params,
                resultTypes := (SlBodyF.n24 ρSf).resultTypes, nfree := (SlBodyF.n24 ρSf).nfree,
                ntmps := (SlBodyF.n24 ρSf).ntmps, results := (SlBodyF.n24 ρSf).results,
                body := (SlBodyF.n24 ρSf).body, norace := (SlBodyF.n24 ρSf).norace,
                ours := (SlBodyF.n24 ρSf).ours, file := (SlBodyF.n24 ρSf).file,
                endLine := (SlBodyF.n24 ρSf).endLine, litNo := (SlBodyF.n24 ρSf).litNo,
                met := (SlBodyF.n24 ρSf).met, tmpNames := (SlBodyF.n24 ρSf).tmpNames }))⟩,
  f25 :=
    Exists.intro "slices.partialInsertionSortCmpFunc[medlar/api.Subset]"
      ⟨of_decide_eq_true (id (Eq.refl true)),
        Eq.trans Try.func78
          (congrArg some
            (Eq.refl (α := Func)
              { name := "slices.partialInsertionSortCmpFunc[medlar/api.Subset]",
                origin := (SlBodyF.n25 ρSf).origin, targs := (SlBodyF.n25 ρSf).targs,
                params := (SlBodyF.n25 ρSf).params, resultTypes := (SlBodyF.n25 ρSf).resultTypes,
                nfree := (SlBodyF.n25 ρSf).nfree, ntmps := (SlBodyF.n25 ρSf).ntmps,
                results := (SlBodyF.n25 ρSf).results, body := (SlBodyF.n25 ρSf).body,
                norace := (SlBodyF.n25 ρSf).norace, ours := (SlBodyF.n25 ρSf).ours,
                file := (SlBodyF.n25 ρSf).file, endLine := (SlBodyF.n25 ρSf).endLine,
                litNo := (SlBodyF.n25 ρSf).litNo, met := (SlBodyF.n25 ρSf).met,
                tmpNames := (SlBodyF.n25 ρSf).tmpNames }))⟩,
  f26 :=
    Exists.intro "slices.partitionEqualCmpFunc[medlar/api.Subset]"
      ⟨of_decide_eq_true (id (Eq.refl true)),
        Eq.trans Try.func79
          (congrArg some
            (Eq.refl (α := Func)
              { name := "slices.partitionEqualCmpFunc[medlar/api.Subset]", origin := (SlBodyF.n26 ρSf).origin,
                targs := (SlBodyF.n26 ρSf).targs, params := (SlBodyF.n26 ρSf).params,
                resultTypes := (SlBodyF.n26 ρSf).resultTypes, nfree := (SlBodyF.n26 ρSf).nfree,
                ntmps := (SlBodyF.n26 ρSf).ntmps, results := (SlBodyF.n26 ρSf).results,
                body := (SlBodyF.n26 ρSf).body, norace := (SlBodyF.n26 ρSf).norace,
                ours := (SlBodyF.n26 ρSf).ours, file := (SlBodyF.n26 ρSf).file,
                endLine := (SlBodyF.n26 ρSf).endLine, litNo := (SlBodyF.n26 ρSf).litNo,
                met := (SlBodyF.n26 ρSf).met, tmpNames := (SlBodyF.n26 ρSf).tmpNames }))⟩,
  f27 :=
    Exists.intro "slices.partitionCmpFunc[medlar/api.Subset]"
      ⟨of_decide_eq_true (id (Eq.refl true)),
        Eq.trans Try.func80
          (congrArg some
            (Eq.refl (α := Func)
              { name := "slices.partitionCmpFunc[medlar/api.Subset]", origin := (SlBodyF.n27 ρSf).origin,
                targs := (SlBodyF.n27 ρSf).targs, params := (SlBodyF.n27 ρSf).params,
                resultTypes := (SlBodyF.n27 ρSf).resultTypes, nfree := (SlBodyF.n27 ρSf).nfree,
                ntmps := (SlBodyF.n27 ρSf).ntmps, results := (SlBodyF.n27 ρSf).results,
                body := (SlBodyF.n27 ρSf).body, norace := (SlBodyF.n27 ρSf).norace,
                ours := (SlBodyF.n27 ρSf).ours, file := (SlBodyF.n27 ρSf).file,
                endLine := (SlBodyF.n27 ρSf).endLine, litNo := (SlBodyF.n27 ρSf).litNo,
                met := (SlBodyF.n27 ρSf).met, tmpNames := (SlBodyF.n27 ρSf).tmpNames }))⟩,
  f28 := Eq.trans Try.func81 (congrArg some (Eq.refl (SlBodyF.n28 ρSf))),
  f29 := Eq.trans Try.func68 (congrArg some (Eq.refl (SlBodyF.n29 ρSf))),
  f46 :=
    Exists.intro "slices.siftDownCmpFunc[medlar/api.Subset]"
      ⟨of_decide_eq_true (id (Eq.refl true)),
        Eq.trans Try.func87
          (congrArg some
            (Eq.refl (α := Func)
              { name := "slices.siftDownCmpFunc[medlar/api.Subset]", origin := (SlBodyF.n46 ρSf).origin,
                targs := (SlBodyF.n46 ρSf).targs, params := (SlBodyF.n46 ρSf).params,
                resultTypes := (SlBodyF.n46 ρSf).resultTypes, nfree := (SlBodyF.n46 ρSf).nfree,
                ntmps := (SlBodyF.n46 ρSf).ntmps, results := (SlBodyF.n46 ρSf).results,
                body := (SlBodyF.n46 ρSf).body, norace := (SlBodyF.n46 ρSf).norace,
                ours := (SlBodyF.n46 ρSf).ours, file := (SlBodyF.n46 ρSf).file,
                endLine := (SlBodyF.n46 ρSf).endLine, litNo := (SlBodyF.n46 ρSf).litNo,
                met := (SlBodyF.n46 ρSf).met, tmpNames := (SlBodyF.n46 ρSf).tmpNames }))⟩,
  f47 := Eq.trans Try.func88 (congrArg some (Eq.refl (SlBodyF.n47 ρSf))),
  f48 := Eq.trans Try.func89 (congrArg some (Eq.refl (SlBodyF.n48 ρSf))),
  f49 :=
    Exists.intro "slices.medianAdjacentCmpFunc[medlar/api.Subset]"
      ⟨of_decide_eq_true (id (Eq.refl true)),
        Eq.trans Try.func90
          (congrArg some
            (Eq.refl (α := Func)
              { name := "slices.medianAdjacentCmpFunc[medlar/api.Subset]", origin := (SlBodyF.n49 ρSf).origin,
                targs := (SlBodyF.n49 ρSf).targs, params := (SlBodyF.n49 ρSf).params,
                resultTypes := (SlBodyF.n49 ρSf).resultTypes, nfree := (SlBodyF.n49 ρSf).nfree,
                ntmps := (SlBodyF.n49 ρSf).ntmps, results := (SlBodyF.n49 ρSf).results,
                body := (SlBodyF.n49 ρSf).body, norace := (SlBodyF.n49 ρSf).norace,
                ours := (SlBodyF.n49 ρSf).ours, file := (SlBodyF.n49 ρSf).file,
                endLine := (SlBodyF.n49 ρSf).endLine, litNo := (SlBodyF.n49 ρSf).litNo,
                met := (SlBodyF.n49 ρSf).met, tmpNames := (SlBodyF.n49 ρSf).tmpNames }))⟩,
  f50 :=
    Exists.intro "slices.medianCmpFunc[medlar/api.Subset]"
      ⟨of_decide_eq_true (id (Eq.refl true)),
        Eq.trans Try.func91
          (congrArg some
            (Eq.refl (α := Func)
              { name := "slices.medianCmpFunc[medlar/api.Subset]", origin := (SlBodyF.n50 ρSf).origin,
                targs := (SlBodyF.n50 ρSf).targs, params := (SlBodyF.n50 ρSf).params,
                resultTypes := (SlBodyF.n50 ρSf).resultTypes, nfree := (SlBodyF.n50 ρSf).nfree,
                ntmps := (SlBodyF.n50 ρSf).ntmps, results := (SlBodyF.n50 ρSf).results,
                body := (SlBodyF.n50 ρSf).body, norace := (SlBodyF.n50 ρSf).norace,
                ours := (SlBodyF.n50 ρSf).ours, file := (SlBodyF.n50 ρSf).file,
                endLine := (SlBodyF.n50 ρSf).endLine, litNo := (SlBodyF.n50 ρSf).litNo,
                met := (SlBodyF.n50 ρSf).met, tmpNames := (SlBodyF.n50 ρSf).tmpNames }))⟩,
  f57 :=
    Exists.intro "slices.order2CmpFunc[medlar/api.Subset]"
      ⟨of_decide_eq_true (id (Eq.refl true)),
        Eq.trans Try.func93
          (congrArg some
            (Eq.refl (α := Func)
              { name := "slices.order2CmpFunc[medlar/api.Subset]", origin := (SlBodyF.n57 ρSf).origin,
                targs := (SlBodyF.n57 ρSf).targs, params := (SlBodyF.n57 ρSf).params,
                resultTypes := (SlBodyF.n57 ρSf).resultTypes, nfree := (SlBodyF.n57 ρSf).nfree,
                ntmps := (SlBodyF.n57 ρSf).ntmps, results := (SlBodyF.n57 ρSf).results,
                body := (SlBodyF.n57 ρSf).body, norace := (SlBodyF.n57 ρSf).norace,
                ours := (SlBodyF.n57 ρSf).ours, file := (SlBodyF.n57 ρSf).file,
                endLine := (SlBodyF.n57 ρSf).endLine, litNo := (SlBodyF.n57 ρSf).litNo,
                met := (SlBodyF.n57 ρSf).met, tmpNames := (SlBodyF.n57 ρSf).tmpNames }))⟩,
  t0 := Try.underlying0, a0 := Try.isAgg0, z0 := Try.sizeOf0, v0 := Try.zeroValue0, t3 := Try.underlying3,
  a3 := Try.isAgg3, z3 := Try.sizeOf3, v3 := Try.zeroValue3, t4 := Try.underlying4, a4 := Try.isAgg4, z4 := Try.sizeOf4,
  v4 := Try.zeroValue4, t5 := Try.underlying5, a5 := Try.isAgg5, z5 := Try.sizeOf5, v5 := Try.zeroValue5,
  t9 := Try.underlying9, a9 := Try.isAgg9, z9 := Try.sizeOf9, v9 := Try.zeroValue9, t22 := Try.underlying25,
  a22 := Try.isAgg25, z22 := Try.sizeOf25, v22 := Try.zeroValue25, t25 := Try.underlying68, a25 := Try.isAgg68,
  z25 := Try.sizeOf68, v25 := Try.zeroValue68, t39 := Try.underlying97, a39 := Try.isAgg97, z39 := Try.sizeOf97,
  v39 := Try.zeroValue97, t45 := Try.underlying110, a45 := Try.isAgg110, z45 := Try.sizeOf110, v45 := Try.zeroValue110,
  t46 := Try.underlying111, a46 := Try.isAgg111, z46 := Try.sizeOf111, v46 := Try.zeroValue111,
  t50 := Try.underlying106, a50 := Try.isAgg106, z50 := Try.sizeOf106, v50 := Try.zeroValue106,
  t53 := Try.underlying117, a53 := Try.isAgg117, z53 := Try.sizeOf117, v53 := Try.zeroValue117, t55 := Try.underlying23,
  a55 := Try.isAgg23, z55 := Try.sizeOf23, v55 := Try.zeroValue23, t66 := Try.underlying120, a66 := Try.isAgg120,
  z66 := Try.sizeOf120, v66 := Try.zeroValue120, t70 := Try.underlying124, a70 := Try.isAgg124, z70 := Try.sizeOf124,
  v70 := Try.zeroValue124, t76 := Try.underlying128, a76 := Try.isAgg128, z76 := Try.sizeOf128, v76 := Try.zeroValue128,
  t77 := Try.underlying129, a77 := Try.isAgg129, z77 := Try.sizeOf129, v77 := Try.zeroValue129 }
theorem aESf : ∀ w : World, (isAgg (ρSf.t 24)).run Try.prog w = .ok true w := Try.isAgg38
theorem zESf : ∀ w : World, (Go.sizeOf (ρSf.t 24)).run Try.prog w = .ok 2 w := Try.sizeOf38
end Go.AM.Seat
