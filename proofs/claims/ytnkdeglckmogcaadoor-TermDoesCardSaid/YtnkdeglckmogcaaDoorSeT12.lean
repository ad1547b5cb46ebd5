/- The seat: contracts whose slice the caller may write: terms made. -/
import Derived.Test.YtnkdeglckmogcaaDoorSeT3
set_option linter.unusedVariables false
set_option maxRecDepth 100000
namespace Go.AM.Seat
open Go Go.AM Go.Proofs

/-! ### term.Make -/
abbrev wRow : List WK := [.id, .arr Term, .id]
def rowR (i : Int) (e : Int) : AV := .tup [(false, [.int .i64 i]), (false, [.hot 0 none]), (false, [.int .i64 e])]
abbrev lt (l : List Term.D) (t : Term.D) : List AV := encA [.v (.sl Term), .v Term] (l, t)
theorem r84io (l : List Term.D) (t : Term.D) : runIO Γ84 noL2 0 [] F84 (lt l t) [] 0 wRow =
    bif (findL l t).2 == 0 then (bif small24 l.length then some (rowR (findL l t).1 0, [.arr true Term l]) else none) else
    bif (findL l t).2 != 4 then some (rowR 0 (findL l t).2, [.arr true Term []]) else
    bif (l.length : Int) == 65536 then some (rowR 0 6, [.arr true Term []]) else
    bif small24 l.length then (bif decide ((l.length + [t].length) * 24 ≤ 140737488355328) then some (rowR l.length 0, [.arr true Term (l ++ [t])]) else none) else none := by kernel_rfl
def s84io : Sp := .io fun a p gs => match a, p, gs with
  | [.one (.sl false (.pair (.int .i64) (.pair (.int .i64) (.int .i64))) none l), .agg [.int .i64 x, .int .i64 y, .int .i64 z]], 0, [] =>
    some (true, rowR (makeL l (x, y, z)).1 (makeL l (x, y, z)).2.2, [.arr true Term (makeL l (x, y, z)).2.1])
  | _, _, _ => none
theorem make_run (l : List Term.D) (t : Term.D) : runIO Γ84 noL2 0 [] F84 (lt l t) [] 0 wRow = some (rowR (makeL l t).1 (makeL l t).2.2, [.arr true Term (makeL l t).2.1]) := by
  rw [r84io]
  simp only [makeL]
  cases h0 : (findL l t).2 == 0 with
  | true =>
    rw [small_of (ixL_len (findL_ok (.inl (eq_of_beq h0))))]; rfl
  | false =>
    cases h4 : (findL l t).2 != 4 with
    | true => rfl
    | false =>
      have hl := ixL_len (findL_ok (.inr (by simpa using h4)))
      cases (l.length : Int) == 65536 with
      | true => rfl
      | false =>
        have : decide ((l.length + [t].length) * 24 ≤ 140737488355328) = true := decide_eq_true (by simp; omega)
        rw [small_of hl, this]; rfl
theorem g84io : GoodS Tryd.prog N84 s84io := by
  refine GoodS.io (callable_of H84 (bd rfl) (by kernel_rfl)) fun a p gs r gs' hw1 hw2 h => ?_
  clear hw1 hw2
  split at h
  · rename_i l x y z
    cases h
    exact goodIO0 (.cons g47 (.cons g103 (.nil _))) H84 rfl noL2 0 [] (noLoops2 (by kernel_rfl)) (lt l (x, y, z)) rfl (by show 2 ≤ _; decide) wRow (make_run l (x, y, z))
  · cases h
end Go.AM.Seat
