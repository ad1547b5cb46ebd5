/- The seat: contracts: nodes, second part. -/
import Derived.Test.YtoeijiackpanoaaSeN1
set_option linter.unusedVariables false
set_option maxRecDepth 100000
namespace Go.AM.Seat
open Go Go.AM Go.Proofs

/-- Two results. -/
def re2 (v e : Int) : AV := .tup [(false, [.int .u64 v]), (false, [.int .i64 e])]
def ri2 (v e : Int) : AV := .tup [(false, [.int .i64 v]), (false, [.int .i64 e])]
def rb2 (v : Bool) (e : Int) : AV := .tup [(false, [.bool v]), (false, [.int .i64 e])]

/-! ### node.Leaf -/
def orU (a b : Int) : Int := IntKind.u64.wrap (BitVec.ofInt 64 a ||| BitVec.ofInt 64 b).toNat
def leafI (h i : Int) : Int × Int := bif !highB h then (0, 1) else bif decide (shrI i h > 0) then (0, 4) else (orU (shlI 1 h) i, 0)
theorem r323 (h i : Int) : run (orc [(N360, s360)]) noL [] F323 (encA [.v I, .v U] (h, i)) [] =
    bif !highB h then some (re2 0 1) else bif decide (0 ≤ h) then bif decide (shrI i h > 0) then some (re2 0 4) else bif decide (0 ≤ h) then some (re2 (orU (shlI 1 h) i) 0) else none else none := by kernel_rfl
theorem highB_iff {h : Int} : highB h = true ↔ 1 ≤ h ∧ h ≤ 32 := by
  unfold highB
  cases e : decide (h ≥ 1) with
  | true => have := of_decide_eq_true e; simp; omega
  | false => have := of_decide_eq_false e; simp; omega
theorem high0 {h : Int} (hh : highB h = true) : decide (0 ≤ h) = true := by have := highB_iff.1 hh; exact decide_eq_true (by omega)
def s323 : Sp := .fn [.v I, .v U] fun x => (true, re2 (leafI x.1 x.2).1 (leafI x.1 x.2).2)
theorem g323 : GoodS Try.prog N323 s323 := by
  refine good (.cons g360 (.nil _)) H323 rfl (by kernel_rfl) noL [] (noLoops (by kernel_rfl)) [.v I, .v U] (by decide) [] _ fun x r hw e => ?_
  obtain ⟨h, i⟩ := x
  cases e
  rw [r323]; unfold leafI
  cases hh : highB h with
  | false => rfl
  | true =>
    have h0 := high0 hh
    simp only [h0, Bool.not_true, cond_true, cond_false]
    cases decide (shrI i h > 0) <;> rfl

/-! ### node.Depth, Up -/
def depthI (h n : Int) : Int × Int := bif chkI h n != 0 then (0, chkI h n) else (depI n, 0)
theorem r362 (h n : Int) : run (orc [(N366, s366), (N330, s330)]) noL [] F362 (encA [.v I, .v U] (h, n)) [] = bif chkI h n != 0 then some (ri2 0 (chkI h n)) else some (ri2 (depI n) 0) := by kernel_rfl
def s362 : Sp := .fn [.v I, .v U] fun x => (true, ri2 (depthI x.1 x.2).1 (depthI x.1 x.2).2)
theorem g362 : GoodS Try.prog N362 s362 := by
  refine good (.cons g366 (.cons g330 (.nil _))) H362 rfl (by kernel_rfl) noL [] (noLoops (by kernel_rfl)) [.v I, .v U] (by decide) [] _ fun x r hw e => ?_
  obtain ⟨h, n⟩ := x
  cases e
  rw [r362]; unfold depthI
  cases chkI h n != 0 <;> rfl

def outUp (n k : Int) : Bool := bif decide (k < 0) then true else decide (k > depI n)
def upI (h n k : Int) : Int × Int := bif chkI h n != 0 then (0, chkI h n) else bif outUp n k then (0, 4) else (shrI n (depI n - k), 0)
theorem r363 (h n k : Int) : run (orc [(N366, s366), (N330, s330)]) noL [] F363 (encA [.v I, .v U, .v I] (h, n, k)) [] =
    bif chkI h n != 0 then some (re2 0 (chkI h n)) else bif outUp n k then some (re2 0 4) else bif decide (0 ≤ IntKind.i64.wrap (depI n - k)) then some (re2 (shrI n (IntKind.i64.wrap (depI n - k))) 0) else none := by kernel_rfl
theorem outUp_false {n k : Int} (hw : IntKind.u64.has n) (ho : outUp n k = false) : 0 ≤ k ∧ k ≤ depI n ∧ IntKind.i64.wrap (depI n - k) = depI n - k ∧ decide (0 ≤ depI n - k) = true := by
  have hd := depI_bd hw
  unfold outUp at ho
  cases h1 : decide (k < 0) with
  | true => rw [h1] at ho; cases ho
  | false =>
    rw [h1] at ho
    have h1 := of_decide_eq_false h1
    have h2 := of_decide_eq_false ho
    exact ⟨by omega, by omega, wrap64 (by omega) (by omega), decide_eq_true (by omega)⟩
def s363 : Sp := .fn [.v I, .v U, .v I] fun x => (true, re2 (upI x.1 x.2.1 x.2.2).1 (upI x.1 x.2.1 x.2.2).2)
theorem g363 : GoodS Try.prog N363 s363 := by
  refine good (.cons g366 (.cons g330 (.nil _))) H363 rfl (by kernel_rfl) noL [] (noLoops (by kernel_rfl)) [.v I, .v U, .v I] (by decide) [] _ fun x r hw e => ?_
  obtain ⟨h, n, k⟩ := x
  cases e
  rw [r363]; unfold upI
  cases chkI h n != 0 with
  | true => rfl
  | false =>
    cases ho : outUp n k with
    | true => rfl
    | false =>
      obtain ⟨_, _, e1, h0⟩ := outUp_false hw.2.1 ho
      rw [e1, h0]; rfl

/-! ### node.above, Above -/
def aboveB (a b : Int) : Bool := bif decide (depI a ≤ depI b) then shrI b (depI b - depI a) == a else false
theorem r329 (a b : Int) : run (orc [(N330, s330)]) noL [] F329 (encA [.v U, .v U] (a, b)) [] =
    bif decide (0 ≤ IntKind.i64.wrap (depI b - depI a)) || !boolBeq (decide (depI a ≤ depI b)) true then
      some (.one (.bool (bif decide (depI a ≤ depI b) then shrI b (IntKind.i64.wrap (depI b - depI a)) == a else false))) else none := by kernel_rfl
def s329 : Sp := .fn [.v U, .v U] fun x => (true, .one (.bool (aboveB x.1 x.2)))
theorem g329 : GoodS Try.prog N329 s329 := by
  refine good (.cons g330 (.nil _)) H329 rfl (by kernel_rfl) noL [] (noLoops (by kernel_rfl)) [.v U, .v U] (by decide) [] _ fun x r hw e => ?_
  obtain ⟨a, b⟩ := x
  cases e
  have ha := depI_bd (n := a) hw.1
  have hb := depI_bd (n := b) hw.2
  have e1 : IntKind.i64.wrap (depI b - depI a) = depI b - depI a := wrap64 (by omega) (by omega)
  rw [r329, e1]; unfold aboveB
  cases h : decide (depI a ≤ depI b) with
  | false => cases decide (0 ≤ depI b - depI a) <;> rfl
  | true =>
    have h := of_decide_eq_true h
    have h0 : decide (0 ≤ depI b - depI a) = true := decide_eq_true (by omega)
    rw [h0]; rfl
def aboveI (h a b : Int) : Bool × Int := bif bothI h a b != 0 then (false, bothI h a b) else (aboveB a b, 0)
theorem r375 (h a b : Int) : run (orc [(N328, s328), (N329, s329)]) noL [] F375 (encA [.v I, .v U, .v U] (h, a, b)) [] = bif bothI h a b != 0 then some (rb2 false (bothI h a b)) else some (rb2 (aboveB a b) 0) := by kernel_rfl
def s375 : Sp := .fn [.v I, .v U, .v U] fun x => (true, rb2 (aboveI x.1 x.2.1 x.2.2).1 (aboveI x.1 x.2.1 x.2.2).2)
theorem g375 : GoodS Try.prog N375 s375 := by
  refine good (.cons g328 (.cons g329 (.nil _))) H375 rfl (by kernel_rfl) noL [] (noLoops (by kernel_rfl)) [.v I, .v U, .v U] (by decide) [] _ fun x r hw e => ?_
  obtain ⟨h, a, b⟩ := x
  cases e
  rw [r375]; unfold aboveI
  cases bothI h a b != 0 <;> rfl
--CUT
end Go.AM.Seat
