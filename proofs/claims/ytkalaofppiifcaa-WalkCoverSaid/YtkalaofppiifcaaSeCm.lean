/- The seat: where a contract of the kit on a library function lies (SlLaysE.n43 43). -/
import Derived.Shelf.SlicesE.Compact
import Derived.Test.YtkalaofppiifcaaAmCmp
import Derived.Test.YtkalaofppiifcaaSeTab
set_option linter.unusedVariables false
set_option maxRecDepth 100000
namespace Go.AM.Seat
open Go Go.AM Go.Proofs Go.Shelf

def ρCm : Go.Shelf.Ren :=
{
  f := fun x =>
    match x with
    | 43 => 84
    | n => n,
  t := fun x =>
    match x with
    | 22 => 22
    | 23 => 23
    | 3 => 3
    | 4 => 4
    | 0 => 0
    | n => n,
  g := fun n => n }
theorem layCm : SlLaysE.n43 Try.prog ρCm :=
{ mixed := Eq.refl true,
  f43 :=
    Exists.intro "slices.Compact[[]uint64,uint64]"
      ⟨of_decide_eq_true (id (Eq.refl true)),
        Eq.trans Try.func84
          (congrArg some
            (Eq.refl (α := Func)
              { name := "slices.Compact[[]uint64,uint64]", origin := (SlBodyN.n43 ρCm).origin,
                targs := (SlBodyN.n43 ρCm).targs, params := (SlBodyN.n43 ρCm).params,
                resultTypes := (SlBodyN.n43 ρCm).resultTypes, nfree := (SlBodyN.n43 ρCm).nfree,
                ntmps := (SlBodyN.n43 ρCm).ntmps, results := (SlBodyN.n43 ρCm).results,
                body := (SlBodyN.n43 ρCm).body, norace := (SlBodyN.n43 ρCm).norace,
                ours := (SlBodyN.n43 ρCm).ours, file := (SlBodyN.n43 ρCm).file,
                endLine := (SlBodyN.n43 ρCm).endLine, litNo := (SlBodyN.n43 ρCm).litNo,
                met := (SlBodyN.n43 ρCm).met, tmpNames := (SlBodyN.n43 ρCm).tmpNames }))⟩,
  t0 := Try.underlying0, a0 := Try.isAgg0, z0 := Try.sizeOf0, v0 := Try.zeroValue0, t3 := Try.underlying3,
  a3 := Try.isAgg3, z3 := Try.sizeOf3, v3 := Try.zeroValue3, t4 := Try.underlying4, a4 := Try.isAgg4, z4 := Try.sizeOf4,
  v4 := Try.zeroValue4, t22 := Try.underlying22, a22 := Try.isAgg22, z22 := Try.sizeOf22, v22 := Try.zeroValue22,
  a23 := Try.isAgg23, z23 := Try.sizeOf23 }
theorem zerCm : ∀ w : World, Sem.run Try.prog (zeroValue (ρCm.t 23)) w = .ok (.int .u64 0) w := Try.zeroValue23
end Go.AM.Seat
