/- Plain laws: what values do is what the definition says. -/
import Derived.Test.YtnkdeglckmogcaaSe14
set_option linter.unusedVariables false
namespace Go.AM.Seat
open Go Go.AM Go.Proofs

theorem makeL_len (l : List Term.D) (t : Term.D) : (makeL l t).2.1.length ≤ l.length + 1 := by
  unfold makeL
  cases (findL l t).2 == 0 <;> cases (findL l t).2 != 4 <;> cases (l.length : Int) == 65536 <;> simp
theorem madeV_len (l : List Term.D) (t : Term.D) : (madeV l t).2.1.length ≤ l.length + 1 := by
  unfold madeV
  cases (makeL l t).2.2 != 0
  · exact makeL_len l t
  · simp
theorem wrapV_len (l : List Term.D) (k v : Value.D) : (wrapV l k v).2.1.length ≤ l.length + 1 := by
  unfold wrapV
  cases isV l [false, false] [k, v] != 0
  · cases k.1
    · simp
    · exact madeV_len l _
  · simp
theorem valEq_self (v : Value.D) : valEq v v = true := valEq_iff.2 rfl
theorem sameL_self (l : List Term.D) : sameL l l = true := decide_eq_true rfl
theorem good4 (x : ADen D7) : Good Try.prog N4 (encA D7 x) (.one (.bool true)) := by
  have g : GoodS Try.prog N4 (.fn D7 fun _ => (true, .one (.bool true))) := by
    refine goodG Γ4ok H4 rfl (by kernel_rfl) Λ4 1 [(0, live4)] (oneLoop (p0 := loop1 F4) (by kernel_rfl) loop4) D7 (by decide) [] _ fun x r hw h => ?_
    obtain ⟨l, s, n, b, v, w, i⟩ := x
    cases h
    refine (r4 l s n b v w i).trans ?_
    cases hl : decide ((l.length : Int) > 60) with
    | true => rfl
    | false =>
      have hl : l.length ≤ 60 := by simp at hl; omega
      have hm := wrapV_len l v w
      rw [small_of (by omega)]
      have hlen : (decide (((wrapV l v w).2.1.length : Int) = (wrapV l v w).2.1.length) && decide (((wrapV l v w).2.1.length : Int) ≤ 9223372036854775807)) = true := len_max (by omega)
      have hf : fin4 l (wrapV l v w).2.1 true = ob true := by unfold fin4; rw [hlen, sameL_self]; rfl
      simp only [all4, veq3, conj4, List.cons_append, List.nil_append, valEq_self, sameL_self, beq_self_eq_true, cond_true, cond_false, hf]
      rfl
  exact g.2.1 _ _ (by kernel_rfl)
end Go.AM.Seat
