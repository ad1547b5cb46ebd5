/- the laws of know: KnowSteps. -/
import Derived.Test.YtnkdeglckmogcaaSeKW
set_option linter.unusedVariables false
set_option linter.unusedSimpArgs false
set_option maxRecDepth 100000
namespace Go.AM.Seat
open Go Go.AM Go.Proofs
def m9 (st : List Int) : Int := IntKind.i64.wrap ((st.length : Int) + 1)
def k9 (st : List Int) (cut : Int) : Int := (IntKind.i64.wrap (IntKind.i64.wrap (cut.tmod (m9 st) + (st.length : Int)) + 1)).tmod (m9 st)
theorem r9 (l : List Term.D) (h st : List Int) (cut i : Int) : run Γ12 noL [] F9 [.one (.sl false Term none l), .one (.sl false I none h), .one (.sl false I none st), .one (.int .i64 cut), .one (.int .i64 i)] [] =
    bif !fewK l [h, st] then some (.one (.bool true)) else bif (bif (isK l h st).2 != 0 then true else !(isK l h st).1) then some (.one (.bool true)) else
    bif !decide (m9 st = 0) then bif !decide (m9 st = 0) then bif decide (0 ≤ k9 st cut) && decide (k9 st cut ≤ (st.length : Int)) then
      bif (bif (isK l h (st.take (k9 st cut).toNat)).2 != 0 then true else !(isK l h (st.take (k9 st cut).toNat)).1) then some (.one (.bool false)) else
      bif nRoom st.length then bif nRoom (st.length + [i].length) then
        some (.one (.bool (bif (bif (isK l h (st ++ [i])).2 != 0 then true else !(isK l h (st ++ [i])).1) then true else bif (knowsK l h i).2 == 0 then (knowsK l h i).1 else false)))
      else none else none
    else none else none else none := by kernel_rfl
theorem tmod_bd (a m : Int) (hm : 0 < m) : a.tmod m < m ∧ -m < a.tmod m := by
  have h1 := Int.tmod_lt_of_pos a hm
  refine ⟨h1, ?_⟩
  have h2 := Int.lt_tmod_of_pos a hm
  omega
theorem good9 : ∀ x, Good Try.prog N9 (encA [.v (.sl Term), .v (.sl I), .v (.sl I), .v I, .v I] x) (.one (.bool true)) := by
  intro x
  have g : GoodS Try.prog N9 (.fn [.v (.sl Term), .v (.sl I), .v (.sl I), .v I, .v I] fun _ => (true, .one (.bool true))) := by
    refine good (.cons g28 (.cons g29 (.cons g32 (.cons g41 (.cons g34 (.nil _)))))) H9 rfl (by kernel_rfl) noL [] (noLoops (by kernel_rfl)) [.v (.sl Term), .v (.sl I), .v (.sl I), .v I, .v I] (by decide) [] _ fun x r hw e => ?_
    obtain ⟨l, h, st, cut, i⟩ := x
    cases e
    refine (r9 l h st cut i).trans ?_
    cases fewK l [h, st] with
    | false => rfl
    | true =>
      simp only [Bool.not_true, cond_false]
      cases h1 : (isK l h st).2 != 0 with
      | true => rfl
      | false =>
        obtain ⟨hh, hst, hg⟩ := isK_err (by simpa using h1)
        obtain ⟨i1, i2⟩ := isK_true hh hst hg
        cases h2 : (isK l h st).1 with
        | false => rfl
        | true =>
          have hc := i2.1 h2
          have hl := hst.1
          have em : m9 st = (st.length : Int) + 1 := by unfold m9; exact wrap64 (by omega) (by omega)
          obtain ⟨b1, b2⟩ := tmod_bd cut ((st.length : Int) + 1) (by omega)
          have ek : k9 st cut = (cut.tmod ((st.length : Int) + 1) + st.length + 1).tmod ((st.length : Int) + 1) := by
            unfold k9
            rw [em, wrap64 (n := cut.tmod ((st.length : Int) + 1) + st.length) (by omega) (by omega), wrap64 (by omega) (by omega)]
          have hk0 : 0 ≤ k9 st cut := by rw [ek]; exact Int.tmod_nonneg _ (by omega)
          have hk1 : k9 st cut ≤ (st.length : Int) := by
            have := (tmod_bd (cut.tmod ((st.length : Int) + 1) + st.length + 1) ((st.length : Int) + 1) (by omega)).1
            rw [ek]; omega
          simp only [cond_false, Bool.not_true]
          rw [em, decide_eq_false (show ¬ (st.length : Int) + 1 = 0 by omega), decide_eq_true hk0, decide_eq_true hk1, show nRoom st.length = true from decide_eq_true (by omega), show nRoom (st.length + [i].length) = true from decide_eq_true (by simp; omega)]
          simp only [Bool.not_false, cond_true, Bool.and_self]
          have hst' : OkP l (st.take (k9 st cut).toNat) := ⟨by rw [List.length_take]; omega, fun y hy => hst.2 y (List.mem_of_mem_take hy)⟩
          obtain ⟨j1, j2⟩ := isK_true hh hst' hg
          rw [j1, j2.2 (chain_take hc _)]
          simp only [bne_self_eq_false, Bool.not_true, cond_false]
          cases h3 : (isK l h (st ++ [i])).2 != 0 with
          | true => rfl
          | false =>
            obtain ⟨_, hsi, _⟩ := isK_err (by simpa using h3)
            cases h4 : (isK l h (st ++ [i])).1 with
            | false => rfl
            | true =>
              have hc2 := (isK_true hh hsi hg).2.1 h4
              have hi := hsi.2 i (by simp)
              obtain ⟨e1, e2⟩ := knows_of hh hg hi
              rw [e1, e2.2 (chain_der _ [] (fun y hy => by cases hy) hc2 i (by simp))]; rfl
  exact g.2.1 _ _ (by kernel_rfl)
end Go.AM.Seat
