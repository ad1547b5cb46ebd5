/- The seat: contracts: steiner.Hang$1. -/
import Derived.Test.YtkalaofppiifcaaSeCv6
set_option linter.unusedVariables false
set_option linter.unusedSimpArgs false
set_option maxRecDepth 100000
namespace Go.AM.Seat
open Go Go.AM Go.Proofs
def nR8 (n : Nat) : Bool := decide (n * 8 ≤ 140737488355328)
theorem r413a (n : Int) (xs : List Int) : runIO (orc []) noL2 1 [] F413 [.one (.int .u64 n), .one (.sl false U none xs), .one (.ptr 8 0)] [.own [.nils]] 1 [] =
    bif nR8 xs.length then some (.tup [], [.own [.hot 1 none], .arr true U xs]) else none := by kernel_rfl
theorem r413b (n : Int) (xs hs : List Int) : runIO (orc []) noL2 2 [] F413 [.one (.int .u64 n), .one (.sl false U none xs), .one (.ptr 8 0)] [.own [.hot 9 none], .arr false U hs] 1 [] =
    bif nR8 (hs.length + xs.length) then some (.tup [], [.own [.hot 1 none], .arr true U (hs ++ xs)]) else none := by kernel_rfl
theorem r413c (n : Int) (xs hs : List Int) : runIO (orc []) noL2 3 [] F413 [.one (.int .u64 n), .one (.hot 8 none), .one (.ptr 9 0)] [.arr false U xs, .own [.hot 10 none], .arr false U hs] 2 [] =
    bif nR8 (hs.length + xs.length) then some (.tup [], [.arr false U xs, .own [.hot 2 none], .arr true U (hs ++ xs)]) else none := by kernel_rfl
def s413c : Sp := .io fun a p gs => match a, p, gs with
  | [.one (.int .u64 n), .one (.hot 0 none), .one (.ptr 1 0)], 2, [.arr false (.int .u64) xs, .own [.hot 2 none], .arr false (.int .u64) hs] => some (nR8 (hs.length + xs.length), .tup [], [.arr false U xs, .own [.hot 2 none], .arr true U (hs ++ xs)])
  | _, _, _ => none
theorem g413c : GoodS Try.prog N413 s413c := by
  refine GoodS.io (callable_of H413 (bd rfl) (by kernel_rfl)) fun a p gs r gs' hw1 hw2 h => ?_
  clear hw1 hw2
  unfold s413c at h
  split at h
  · rename_i n xs hs
    simp only [Option.some.injEq, Prod.mk.injEq] at h
    obtain ⟨h2, rfl, rfl⟩ := h
    have hrun := r413c n xs hs
    rw [h2] at hrun
    exact goodIO1 (.nil _) H413 rfl noL2 3 [] (noLoops (by kernel_rfl)) [.one (.int .u64 n), .one (.hot 0 none), .one (.ptr 1 0)] [.arr false U xs, .own [.hot 2 none], .arr false U hs] 2
      (ys := [.one (.int .u64 n), .one (.hot 8 none), .one (.ptr 9 0)]) (hs := [.arr false U xs, .own [.hot 10 none], .arr false U hs]) rfl rfl rfl (Nat.le_succ 2) (by show 3 ≤ _; decide) (Nat.le_refl 3) [] hrun
  · cases h
def s413 : Sp := .io fun a p gs => match a, p, gs with
  | [.one (.int .u64 n), .one (.sl false (.int .u64) none xs), .one (.ptr 0 0)], 1, [.own [.nils]] => some (nR8 xs.length, .tup [], [.own [.hot 1 none], .arr true U xs])
  | [.one (.int .u64 n), .one (.sl false (.int .u64) none xs), .one (.ptr 0 0)], 1, [.own [.hot 1 none], .arr false (.int .u64) hs] => some (nR8 (hs.length + xs.length), .tup [], [.own [.hot 1 none], .arr true U (hs ++ xs)])
  | _, _, _ => none
theorem g413 : GoodS Try.prog N413 s413 := by
  refine GoodS.io (callable_of H413 (bd rfl) (by kernel_rfl)) fun a p gs r gs' hw1 hw2 h => ?_
  clear hw1 hw2
  unfold s413 at h
  split at h
  · rename_i n xs
    simp only [Option.some.injEq, Prod.mk.injEq] at h
    obtain ⟨h2, rfl, rfl⟩ := h
    have hrun := r413a n xs
    rw [h2] at hrun
    exact goodIO1 (.nil _) H413 rfl noL2 1 [] (noLoops (by kernel_rfl)) [.one (.int .u64 n), .one (.sl false U none xs), .one (.ptr 0 0)] [.own [.nils]] 1
      (ys := [.one (.int .u64 n), .one (.sl false U none xs), .one (.ptr 8 0)]) (hs := [.own [.nils]]) rfl rfl rfl (Nat.le_refl 1) (by show 3 ≤ _; decide) (Nat.le_refl 1) [] hrun
  · rename_i n xs hs
    simp only [Option.some.injEq, Prod.mk.injEq] at h
    obtain ⟨h2, rfl, rfl⟩ := h
    have hrun := r413b n xs hs
    rw [h2] at hrun
    exact goodIO1 (.nil _) H413 rfl noL2 2 [] (noLoops (by kernel_rfl)) [.one (.int .u64 n), .one (.sl false U none xs), .one (.ptr 0 0)] [.own [.hot 1 none], .arr false U hs] 1
      (ys := [.one (.int .u64 n), .one (.sl false U none xs), .one (.ptr 8 0)]) (hs := [.own [.hot 9 none], .arr false U hs]) rfl rfl rfl (Nat.le_succ 1) (by show 3 ≤ _; decide) (Nat.le_refl 2) [] hrun
  · cases h
end Go.AM.Seat
