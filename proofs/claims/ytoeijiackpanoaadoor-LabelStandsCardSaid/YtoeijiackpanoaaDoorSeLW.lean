/- The law LabelWalks: its run. -/
import Derived.Test.YtoeijiackpanoaaDoorPlLab
set_option linter.unusedVariables false
set_option linter.unusedSimpArgs false
set_option maxRecDepth 100000
namespace Go.AM.Seat
open Go Go.AM Go.Proofs

/-! ### node.Child -/
def Γ416 : Orc := orc [(N366, s366), (N330, s330)]
def ru2 (a e : Int) : AV := .tup [(false, [.int .u64 a]), (false, [.int .i64 e])]
def childI (h n i : Int) : Int × Int := bif bif chkI h n != 0 then true else oddB i then (0, 1) else bif depI n == h then (0, 4) else (orU (shlI n 1) (IntKind.u64.wrap i), 0)
theorem r416 (h n i : Int) : run Γ416 noL [] F416 (encA [.v I, .v U, .v I] (h, n, i)) [] =
    bif bif chkI h n != 0 then true else oddB i then some (ru2 0 1) else bif depI n == h then some (ru2 0 4) else some (ru2 (orU (shlI n 1) (IntKind.u64.wrap i)) 0) := by kernel_rfl
def s416 : Sp := .fn [.v I, .v U, .v I] fun x => (true, ru2 (childI x.1 x.2.1 x.2.2).1 (childI x.1 x.2.1 x.2.2).2)
theorem g416 : GoodS Tryd.prog N416 s416 := by
  refine good (.cons g366 (.cons g330 (.nil _))) H416 rfl (by kernel_rfl) noL [] (noLoops (by kernel_rfl)) [.v I, .v U, .v I] (by decide) [] _ fun x r hw e => ?_
  obtain ⟨h, n, i⟩ := x
  cases e
  refine (r416 h n i).trans ?_
  show _ = some (ru2 (childI h n i).1 (childI h n i).2)
  unfold childI
  cases bif chkI h n != 0 then true else oddB i <;> cases depI n == h <;> rfl

/-! ### the law -/
def Γ606 : Orc := orc [(N608, sLive), (N346, s346), (N26, s26), (N609, s609), (N416, s416)]
theorem Γ606ok : OrcOk Tryd.prog Γ606 := .cons g608 (.cons g346 (.cons g26 (.cons g609 (.cons g416 (.nil _)))))
abbrev live606 : List (Nat × Dir) := [(0, .keep), (1, .keep), (3, .keep), (8, .keep), (13, .keep), (15, .keep), (23, .keep), (111, .keep)]
def vs606 (l : List Term.D) (h n : Int) (m : Value.D) (x : List Term.D) (v : Value.D) (i : Int) : List AV :=
  [.one (.sl false Term none l), .one (.int .i64 h), .one (.int .u64 n), .own (enc Value false m), .one (.bool true), .one (.sl true Term none x), .own (enc Value true v), .one (.int .i64 i)]
def difW (w u : WS) : Bool := bif bif bif w.2.2 != 0 then true else u.2.2 != 0 then true else !valEq w.1 u.1 then true else !sameL w.2.1 u.2.1
/-- A side: nothing there, or all is right. -/
def sideB (l : List Term.D) (h n : Int) (m : Value.D) (x : List Term.D) (v : Value.D) (i : Int) : Bool :=
  bif (childI h n i).2 != 0 then true else small24 l.length && small24 x.length && !difW (nodeV l h m (childI h n i).1) (walkV x v [i])
def Λ606 : Lam AV := fun cur vs K =>
  match cur, vs with
  | 0, [.one (.sl false (.pair (.int .i64) (.pair (.int .i64) (.int .i64))) none l), .one (.int .i64 h), .one (.int .u64 n),
      .own [.bool m1, .bool m2, .int .u64 m3, .int .u64 m4, .int .u64 m5, .int .u64 m6, .int .u64 m7, .int .u64 m8, .int .i64 m9], .one (.bool true), .one (.sl true (.pair (.int .i64) (.pair (.int .i64) (.int .i64))) none x),
      .own [.bool v1, .bool v2, .int .u64 v3, .int .u64 v4, .int .u64 v5, .int .u64 v6, .int .u64 v7, .int .u64 v8, .int .i64 v9], .one (.int .i64 0)] =>
    bif sideB l h n (m1, m2, (m3, m4), ((m5, m6), (m7, m8)), m9) x (v1, v2, (v3, v4), ((v5, v6), (v7, v8)), v9) 0 && sideB l h n (m1, m2, (m3, m4), ((m5, m6), (m7, m8)), m9) x (v1, v2, (v3, v4), ((v5, v6), (v7, v8)), v9) 1 then
      K (.exit 0) (vs606 l h n (m1, m2, (m3, m4), ((m5, m6), (m7, m8)), m9) x (v1, v2, (v3, v4), ((v5, v6), (v7, v8)), v9) 2)
    else none
  | _, _ => none
noncomputable abbrev lp606 (K : AE → List AV → Option AV) (fuel : Nat) (vs : List AV) : Option AV := loopN (aexec tb Γ606 Λ606 ⟨160, 0, [(0, live606)]⟩ (loop1 F606).2 0) 160 0 live606 K fuel vs
theorem step606 (l : List Term.D) (h n : Int) (m : Value.D) (x : List Term.D) (v : Value.D) (i : Int) (K : AE → List AV → Option AV) (fuel : Nat) : lp606 K (fuel + 1) (vs606 l h n m x v i) =
    bif decide (i < 2) then
      bif (childI h n i).2 != 0 then lp606 K fuel (vs606 l h n m x v (IntKind.i64.wrap (i + 1))) else
      bif small24 l.length then bif small24 x.length then
        bif difW (nodeV l h m (childI h n i).1) (walkV x v [i]) then K .ret (vs606 l h n m x v i) else lp606 K fuel (vs606 l h n m x v (IntKind.i64.wrap (i + 1)))
      else none else none
    else K (.exit 0) (vs606 l h n m x v i) := by kernel_rfl
theorem side_step {l : List Term.D} {h n : Int} {m : Value.D} {x : List Term.D} {v : Value.D} {i : Int} (hs : sideB l h n m x v i = true) (hi : i < 2) (K : AE → List AV → Option AV) (fuel : Nat) :
    lp606 K (fuel + 1) (vs606 l h n m x v i) = lp606 K fuel (vs606 l h n m x v (IntKind.i64.wrap (i + 1))) := by
  rw [step606, decide_eq_true hi]
  unfold sideB at hs
  cases hc : (childI h n i).2 != 0 with
  | true => rfl
  | false =>
    rw [hc] at hs
    simp only [cond_false, Bool.and_eq_true, Bool.not_eq_true'] at hs
    rw [hs.1.1, hs.1.2, hs.2]; rfl
theorem loop606 : LoopP tb Γ606 Λ606 ⟨160, 0, [(0, live606)]⟩ (loop1 F606) := by
  intro vs K out e
  have hcur : (loop1 F606).1 = 0 := by kernel_rfl
  rw [hcur] at e ⊢
  unfold Λ606 at e
  split at e
  · rename_i l h n m1 m2 m3 m4 m5 m6 m7 m8 m9 x v1 v2 v3 v4 v5 v6 v7 v8 v9 _
    cases hc : (sideB l h n (m1, m2, (m3, m4), ((m5, m6), (m7, m8)), m9) x (v1, v2, (v3, v4), ((v5, v6), (v7, v8)), v9) 0 && sideB l h n (m1, m2, (m3, m4), ((m5, m6), (m7, m8)), m9) x (v1, v2, (v3, v4), ((v5, v6), (v7, v8)), v9) 1) with
    | false => rw [hc] at e; cases e
    | true =>
      rw [hc] at e
      simp only [Bool.and_eq_true] at hc
      refine ⟨3, ?_⟩
      refine (side_step (i := 0) hc.1 (by decide) K 2).trans ?_
      rw [show IntKind.i64.wrap (0 + 1) = 1 by decide]
      refine (side_step (i := 1) hc.2 (by decide) K 1).trans ?_
      rw [show IntKind.i64.wrap (1 + 1) = 2 by decide, step606]
      exact e
  · cases e
@[reducible] def A6 : List AK := [.v (.sl Term), .v I, .v Value, .v U, .v (.sl I), .v (.sl I)]
def two6 (l : List Term.D) (m : Value.D) (b : List Int) (all one : WS) (rest : Option AV) : Option AV :=
  bif all.2.2 == 0 then bif small24 one.2.1.length then bif difW (one.1, one.2.1, one.2.2) (one.1, one.2.1, one.2.2) then none else rest else none else rest
--CUT
end Go.AM.Seat
