/- The seat: contracts: a value's parts; the laws of kinds. -/
import Derived.Test.YtnkdeglckmogcaaSe7
set_option linter.unusedVariables false
set_option maxRecDepth 100000
namespace Go.AM.Seat
open Go Go.AM Go.Proofs

/-! ### value.Part -/
def Γ22 : Orc := orc [(N44, s44), (N45, s45), (N47, s47), (N53, s53)]
@[reducible] def P3 : List AK := [.v (.sl Term), .v Value, .v I]
def partBad (l : List Term.D) (v : Value.D) (i : Int) : Bool := bif bif isV l [false] [v] != 0 then true else decide (i < 0) then true else decide (i > 2)
def partV (l : List Term.D) (v : Value.D) (i : Int) : Value.D × List Term.D × Int :=
  bif partBad l v i then (zeroV, [], 1) else bif v.1 then madeV l (IntKind.i64.wrap (2 + i), v.2.2.2.2, 0) else (octV (partR v.2.2.1 i).1, l, (partR v.2.2.1 i).2)
theorem r22 (l : List Term.D) (v : Value.D) (i : Int) : run Γ22 noL [] F22 (encA P3 (l, v, i)) wVle =
    bif partBad l v i then some (vle (zeroV, [], 1)) else
    bif v.1 then some (vle (madeV l (IntKind.i64.wrap (2 + i), v.2.2.2.2, 0))) else bif small24 l.length then some (vle (octV (partR v.2.2.1 i).1, l, (partR v.2.2.1 i).2)) else none := by kernel_rfl
theorem isV_one {l : List Term.D} {a : Bool} {v : Value.D} : isV l [a] [v] = 0 ↔ checkV l v = 0 ∧ ownV l v = a := by
  unfold isV
  have e : isGo l [a] (vAt [v] 0) [v] 0 = bif checkV l v != 0 then checkV l v else bif !(ownV l v == a) then 1 else 0 := by
    show isGo l [a] v [v] 0 = _
    simp only [isGo, List.getD_cons_zero, beq_self_eq_true, Bool.not_true, cond_false]
  rw [e]
  rcases checkV_one l v with h1 | h1 <;> rw [h1]
  all_goals
    cases h3 : !(ownV l v == a) <;> simp at h3 <;> simp [h3]
def s22 : Sp := .fn P3 fun x => (true, vle (partV x.1 x.2.1 x.2.2))
theorem g22 : GoodS Try.prog N22 s22 := by
  refine good (.cons g44 (.cons g45 (.cons g47 (.cons g53 (.nil _))))) H22 rfl (by kernel_rfl) noL [] (noLoops (by kernel_rfl)) P3 (by decide) wVle _ fun x r hw h => ?_
  obtain ⟨l, v, i⟩ := x
  cases h
  refine (r22 l v i).trans ?_
  simp only [partV]
  cases h0 : partBad l v i with
  | true => rfl
  | false =>
    cases v.1 with
    | true => rfl
    | false =>
      unfold partBad at h0
      cases h1 : isV l [false] [v] != 0 with
      | true => rw [h1] at h0; cases h0
      | false =>
        have hz : isV l [false] [v] = 0 := by simpa using h1
        rw [small_of (checkL_small (checkV_zero.1 (isV_one.1 hz).1).1)]; rfl
def Γ5 : Orc := orc [(N16, s16), (N17, s17), (N18, s18), (N19, s19), (N22, s22)]
@[reducible] def K4 : List AK := [.v (.sl Term), .v Value, .v Value, .v I]
def kinds1 (a b : Value.D) (e f : Int) : Bool := bif !(a.1 == b.1) then bif e != 1 then true else f != 1 else false
def kinds2 (e g c h : Int) : Bool := bif bif g == 0 then c != 0 else false then true else bif e == 0 then h != 0 else false
def kinds3 (e f h : Int) : Bool := bif bif e != 0 then true else f == 1 then bif bif f != 0 then f != 7 else false then true else h == 1 else false
theorem r5 (l : List Term.D) (a b : Value.D) (i : Int) : run Γ5 noL [] F5 (encA K4 (l, a, b, i)) [] =
    bif decide ((l.length : Int) > 60) then B true else
    bif kinds1 a b (wrapV l a b).2.2 (unwrapV l a b).2 then B false else
    bif kinds2 (wrapV l a b).2.2 (partV l a i).2.2 (checkV l a) (partV l b 2).2.2 then B false else
    B (kinds3 (wrapV l a b).2.2 (unwrapV l a b).2 (partV l b 2).2.2) := by kernel_rfl
end Go.AM.Seat
