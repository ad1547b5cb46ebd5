/- The law LabelWalks: that it answers true. -/
import Derived.Test.YtoeijiackpanoaaDoorSeLX
set_option linter.unusedVariables false
set_option linter.unusedSimpArgs false
set_option maxRecDepth 100000
namespace Go.AM.Seat
open Go Go.AM Go.Proofs

theorem rest6_true {l : List Term.D} {h : Int} {m : Value.D} {n : Int} (hl : l.length ≤ 60) (hn : IntKind.u64.has n) : rest6 l h m n (nodeV l h m n) = oB true := by
  unfold rest6
  rw [small_of (by omega)]
  cases he : (nodeV l h m n).2.2 != 0 with
  | true => rw [(nodeV_bad (show (nodeV l h m n).2.2 ≠ 0 by simpa using he)).1, valEq_iff.2 rfl]; rfl
  | false =>
    have he' : (nodeV l h m n).2.2 = 0 := by simpa using he
    rw [side_true hl hn (.inl rfl) he', side_true hl hn (.inr rfl) he']; rfl
theorem fin6_true {l : List Term.D} {h : Int} {m : Value.D} {n : Int} {a b : List Int} (hl : l.length ≤ 60) (hn : IntKind.u64.has n) (ha : a.length ≤ 30) (hb : b.length ≤ 30) (wa : ∀ x ∈ a, IntKind.i64.has x) (wb : ∀ x ∈ b, IntKind.i64.has x) :
    fin6 l h m n b (walkV l m (a ++ b)) (walkV l m a) = oB true := by
  unfold fin6
  rw [small_of (by omega), rest6_true hl hn]
  cases he : (walkV l m (a ++ b)).2.2 == 0 with
  | false => rfl
  | true =>
    have he' : (walkV l m (a ++ b)).2.2 = 0 := eq_of_beq he
    obtain ⟨h1, h2, h3⟩ := two_goes (by omega) wa wb he'
    rw [small_of (by omega), h3]
    unfold dif3
    rw [h1, he', valEq_iff.2 rfl, show sameL (walkV l m (a ++ b)).2.1 (walkV l m (a ++ b)).2.1 = true from decide_eq_true rfl]; rfl
theorem good606 (x : ADen A6) : Good Tryd.prog N606 (encA A6 x) (.one (.bool true)) := by
  have g : GoodS Tryd.prog N606 (.fn A6 fun _ => (true, .one (.bool true))) := by
    refine good Γ606ok H606 rfl (by kernel_rfl) Λ606 [(0, live606)] (oneLoop (p0 := loop1 F606) (by kernel_rfl) loop606) A6 (by decide) [] _ fun x r hw e => ?_
    obtain ⟨l, h, m, n, a, b⟩ := x
    cases e
    refine (r606 l h m n a b).trans ?_
    cases h1 : (bif bif decide ((l.length : Int) > 60) then true else decide ((a.length : Int) > 30) then true else decide ((b.length : Int) > 30)) with
    | true => rfl
    | false =>
      have hl : l.length ≤ 60 ∧ a.length ≤ 30 ∧ b.length ≤ 30 := by
        cases h2 : decide ((l.length : Int) > 60) with
        | true => rw [h2] at h1; cases h1
        | false =>
          cases h3 : decide ((a.length : Int) > 30) with
          | true => rw [h2, h3] at h1; cases h1
          | false =>
            rw [h2, h3] at h1
            simp at h2 h3 h1
            omega
      obtain ⟨w1, w2, w3, w4, w5, w6⟩ := hw
      rw [decide_eq_true (show a.length * 8 ≤ 140737488355328 by omega), decide_eq_true (show (a.length + b.length) * 8 ≤ 140737488355328 by omega), fin6_true hl.1 w4 hl.2.1 hl.2.2 w5.2 w6.2]
      exact ord6_some
  exact g.2.1 _ _ (by kernel_rfl)
end Go.AM.Seat
