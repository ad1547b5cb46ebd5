/- The seat: slices.Compact at uint64. -/
import Derived.Test.YtkalaofppiifcaaSeCv4
import Derived.Test.YtkalaofppiifcaaSeCm
set_option linter.unusedVariables false
set_option linter.unusedSimpArgs false
set_option maxRecDepth 100000
namespace Go.AM.Seat
open Go Go.AM Go.Proofs
theorem tm440 : F440.ntmps = 61 := by kernel_rfl
theorem nil440 (w : World) : Calls Try.prog N440 #[.slice none 0 0] w fun e w' => e = .returned (.slice none 0 0) ∧ w' = w := by
  go_enter H440, tm440
  go_wp2_with fail
  all_goals go_ret
  all_goals exact ⟨rfl, rfl⟩
theorem io440 (l : List Int) (hl : l.length ≤ 1000000) : GoodIO Try.prog N440 [.one (.hot 0 none)] 0 [.arr false (.int .u64) l] (.one (.hot 0 none)) [.arr false (.int .u64) (compactL l)] :=
  compact_io layCm zerCm nil440 l hl
def s440 : Sp := .io fun a p gs => match a, p, gs with
  | [.one (.hot 0 none)], 0, [.arr false (.int .u64) l] => some (decide (l.length ≤ 1000000), .one (.hot 0 none), [.arr false U (compactL l)])
  | _, _, _ => none
theorem g440 : GoodS Try.prog N440 s440 := by
  refine GoodS.io (callable_of H440 (bd rfl) (by kernel_rfl)) fun a p gs r gs' hw1 hw2 h => ?_
  clear hw1 hw2
  unfold s440 at h
  split at h
  · rename_i l
    simp only [Option.some.injEq, Prod.mk.injEq, decide_eq_true_eq] at h
    obtain ⟨hs, rfl, rfl⟩ := h
    exact io440 l hs
  · cases h
end Go.AM.Seat
