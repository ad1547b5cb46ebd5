/- The seat: contracts: leaves of a node, where two meet; subsets. -/
import Derived.Test.YtoeijiackpanoaaSeN2
set_option linter.unusedVariables false
set_option maxRecDepth 100000
namespace Go.AM.Seat
open Go Go.AM Go.Proofs

@[reducible] def Subset : Ty := .pair U U
@[reducible] def Span : Ty := .pair U U
theorem bad_false {h n : Int} (hb : badN h n = false) : highB h = true ∧ 1 ≤ n ∧ depI n ≤ h := by
  unfold badN at hb
  cases h1 : highB h with
  | false => rw [h1] at hb; cases hb
  | true =>
    rw [h1] at hb
    cases h2 : decide (n < 1) with
    | true => rw [h2] at hb; cases hb
    | false =>
      rw [h2] at hb
      have h2 := of_decide_eq_false h2
      have h3 := of_decide_eq_false hb
      exact ⟨rfl, by omega, by omega⟩
theorem chk_zero {h n : Int} (hc : (chkI h n != 0) = false) : highB h = true ∧ 1 ≤ n ∧ depI n ≤ h := by
  refine bad_false ?_
  cases hb : badN h n with
  | false => rfl
  | true => unfold chkI at hc; rw [hb] at hc; cases hc
theorem dep_wrap {h n : Int} (hw : IntKind.u64.has n) (hc : (chkI h n != 0) = false) : IntKind.i64.wrap (h - depI n) = h - depI n ∧ decide (0 ≤ h - depI n) = true ∧ decide (0 ≤ h) = true := by
  obtain ⟨h1, h2, h3⟩ := chk_zero hc
  have h4 := highB_iff.1 h1
  have h5 := depI_bd hw
  exact ⟨wrap64 (by omega) (by omega), decide_eq_true (by omega), decide_eq_true (by omega)⟩

/-! ### node.Leaves -/
def rs2 (p : Int × Int) (e : Int) : AV := .tup [(true, [.int .u64 p.1, .int .u64 p.2]), (false, [.int .i64 e])]
def lowI (h n d : Int) : Int := IntKind.u64.wrap (shlI n d - shlI 1 h)
def topI (h n d : Int) : Int := IntKind.u64.wrap (IntKind.u64.wrap (lowI h n d + shlI 1 d) - 1)
def leavesI (h n : Int) : (Int × Int) × Int := bif chkI h n != 0 then ((0, 0), chkI h n) else ((lowI h n (h - depI n), topI h n (h - depI n)), 0)
theorem r368 (h n : Int) : run (orc [(N366, s366), (N330, s330)]) noL [] F368 (encA [.v I, .v U] (h, n)) [] =
    bif chkI h n != 0 then some (rs2 (0, 0) (chkI h n)) else
    bif decide (0 ≤ IntKind.i64.wrap (h - depI n)) then bif decide (0 ≤ h) then bif decide (0 ≤ IntKind.i64.wrap (h - depI n)) then
      some (rs2 (lowI h n (IntKind.i64.wrap (h - depI n)), topI h n (IntKind.i64.wrap (h - depI n))) 0) else none else none else none := by kernel_rfl
def s368 : Sp := .fn [.v I, .v U] fun x => (true, rs2 (leavesI x.1 x.2).1 (leavesI x.1 x.2).2)
theorem g368 : GoodS Try.prog N368 s368 := by
  refine good (.cons g366 (.cons g330 (.nil _))) H368 rfl (by kernel_rfl) noL [] (noLoops (by kernel_rfl)) [.v I, .v U] (by decide) [] _ fun x r hw e => ?_
  obtain ⟨h, n⟩ := x
  cases e
  rw [r368]; unfold leavesI
  cases hc : chkI h n != 0 with
  | true => rfl
  | false =>
    obtain ⟨e1, e2, e3⟩ := dep_wrap hw.2 hc
    rw [e1, e2, e3]; rfl
/-! ### node.Meet -/
def xorI (a b : Int) : Int := IntKind.u64.wrap (BitVec.ofInt 64 a ^^^ BitVec.ofInt 64 b).toNat
def meetF (x y : Int) : Option AV := bif decide (0 ≤ lenI (xorI x y)) then some (re2 (shrI x (lenI (xorI x y))) 0) else none
def meetP (a b m : Int) : Option AV := bif decide (0 ≤ IntKind.i64.wrap (depI a - m)) then bif decide (0 ≤ IntKind.i64.wrap (depI b - m)) then meetF (shrI a (IntKind.i64.wrap (depI a - m))) (shrI b (IntKind.i64.wrap (depI b - m))) else none else none
def meetQ (a b m : Int) : Option AV := bif decide (0 ≤ IntKind.i64.wrap (depI b - m)) then bif decide (0 ≤ IntKind.i64.wrap (depI a - m)) then meetF (shrI a (IntKind.i64.wrap (depI a - m))) (shrI b (IntKind.i64.wrap (depI b - m))) else none else none
theorem r361 (h a b : Int) : run (orc [(N328, s328), (N330, s330), (N119, s119)]) noL [] F361 (encA [.v I, .v U, .v U] (h, a, b)) [] =
    bif bothI h a b != 0 then some (re2 0 (bothI h a b)) else allSame [meetP a b (minI (depI a) (depI b)), meetP a b (minI (depI a) (depI b)), meetP a b (minI (depI a) (depI b)), meetP a b (minI (depI a) (depI b)), meetP a b (minI (depI a) (depI b)), meetP a b (minI (depI a) (depI b)), meetP a b (minI (depI a) (depI b)), meetP a b (minI (depI a) (depI b)), meetQ a b (minI (depI a) (depI b)), meetP a b (minI (depI a) (depI b)), meetP a b (minI (depI a) (depI b)), meetP a b (minI (depI a) (depI b)), meetP a b (minI (depI a) (depI b)), meetP a b (minI (depI a) (depI b)), meetQ a b (minI (depI a) (depI b)), meetP a b (minI (depI a) (depI b)), meetP a b (minI (depI a) (depI b)), meetQ a b (minI (depI a) (depI b)), meetQ a b (minI (depI a) (depI b))] := by kernel_rfl
theorem minI_le (a b : Int) : minI a b ≤ a ∧ minI a b ≤ b ∧ (minI a b = a ∨ minI a b = b) := by
  unfold minI; split <;> omega
theorem lenI_nonneg (n : Int) : 0 ≤ lenI n := by
  unfold lenI
  cases decide (n ≤ 0) with
  | true => exact Int.le_refl 0
  | false => show (0 : Int) ≤ (n.toNat.log2 : Int) + 1; omega
def meetI (h a b : Int) : Int × Int := bif bothI h a b != 0 then (0, bothI h a b) else
  (shrI (shrI a (depI a - minI (depI a) (depI b))) (lenI (xorI (shrI a (depI a - minI (depI a) (depI b))) (shrI b (depI b - minI (depI a) (depI b))))), 0)
def s361 : Sp := .fn [.v I, .v U, .v U] fun x => (true, re2 (meetI x.1 x.2.1 x.2.2).1 (meetI x.1 x.2.1 x.2.2).2)
theorem meet_guard {a b : Int} (ha : IntKind.u64.has a) (hb : IntKind.u64.has b) : IntKind.i64.wrap (depI a - minI (depI a) (depI b)) = depI a - minI (depI a) (depI b) ∧
    IntKind.i64.wrap (depI b - minI (depI a) (depI b)) = depI b - minI (depI a) (depI b) ∧ decide (0 ≤ depI a - minI (depI a) (depI b)) = true ∧ decide (0 ≤ depI b - minI (depI a) (depI b)) = true := by
  have h1 := depI_bd ha
  have h2 := depI_bd hb
  obtain ⟨m1, m2, m3⟩ := minI_le (depI a) (depI b)
  generalize minI (depI a) (depI b) = m at *
  exact ⟨wrap64 (by omega) (by omega), wrap64 (by omega) (by omega), decide_eq_true (by omega), decide_eq_true (by omega)⟩
theorem g361 : GoodS Try.prog N361 s361 := by
  refine good (.cons g328 (.cons g330 (.cons g119 (.nil _)))) H361 rfl (by kernel_rfl) noL [] (noLoops (by kernel_rfl)) [.v I, .v U, .v U] (by decide) [] _ fun x r hw e => ?_
  obtain ⟨h, a, b⟩ := x
  cases e
  obtain ⟨e1, e2, e3, e4⟩ := meet_guard (a := a) (b := b) hw.2.1 hw.2.2
  rw [r361]
  unfold meetP meetQ meetF meetI
  rw [e1, e2, e3, e4, decide_eq_true (lenI_nonneg _)]
  cases bothI h a b != 0 with
  | true => rfl
  | false => exact allSame_rep _ 18

/-! ### sub.Check -/
def subE (h : Int) (s : Subset.D) : Int := bif s.2 == 0 then chkI h s.1 else bif (bif bif (aboveI h s.1 s.2).2 != 0 then true else !(aboveI h s.1 s.2).1 then true else s.1 == s.2) then 1 else 0
theorem r341 (h : Int) (s : Subset.D) : run (orc [(N366, s366), (N375, s375)]) noL [] F341 (encA [.v I, .v Subset] (h, s)) [] =
    bif s.2 == 0 then some (.one (.int .i64 (chkI h s.1))) else bif (bif bif (aboveI h s.1 s.2).2 != 0 then true else !(aboveI h s.1 s.2).1 then true else s.1 == s.2) then some (.one (.int .i64 1)) else some (.one (.int .i64 0)) := by kernel_rfl
def s341 : Sp := .fn [.v I, .v Subset] fun x => (true, .one (.int .i64 (subE x.1 x.2)))
theorem g341 : GoodS Try.prog N341 s341 := by
  refine good (.cons g366 (.cons g375 (.nil _))) H341 rfl (by kernel_rfl) noL [] (noLoops (by kernel_rfl)) [.v I, .v Subset] (by decide) [] _ fun x r hw e => ?_
  obtain ⟨h, s⟩ := x
  cases e
  rw [r341]; unfold subE
  cases s.2 == 0 with
  | true => rfl
  | false => cases (bif bif (aboveI h s.1 s.2).2 != 0 then true else !(aboveI h s.1 s.2).1 then true else s.1 == s.2) <;> rfl

/-! ### sub.both -/
def rss (p q : Int × Int) (e : Int) : AV := .tup [(true, [.int .u64 p.1, .int .u64 p.2]), (true, [.int .u64 q.1, .int .u64 q.2]), (false, [.int .i64 e])]
def bothS (h : Int) (s : Subset.D) : (Int × Int) × (Int × Int) × Int := bif subE h s != 0 then ((0, 0), (0, 0), subE h s) else
  bif (bif (leavesI h s.1).2 == 0 then s.2 != 0 else false) then ((leavesI h s.1).1, (leavesI h s.2).1, (leavesI h s.2).2) else ((leavesI h s.1).1, (0, 0), (leavesI h s.1).2)
theorem r331 (h : Int) (s : Subset.D) : run (orc [(N341, s341), (N368, s368)]) noL [] F331 (encA [.v I, .v Subset] (h, s)) [] =
    bif subE h s != 0 then allSame (List.replicate 3 (some (rss (0, 0) (0, 0) (subE h s)))) else
    bif (bif (leavesI h s.1).2 == 0 then s.2 != 0 else false) then allSame (List.replicate 3 (some (rss (leavesI h s.1).1 (leavesI h s.2).1 (leavesI h s.2).2))) else allSame (List.replicate 3 (some (rss (leavesI h s.1).1 (0, 0) (leavesI h s.1).2))) := by kernel_rfl
def s331 : Sp := .fn [.v I, .v Subset] fun x => (true, rss (bothS x.1 x.2).1 (bothS x.1 x.2).2.1 (bothS x.1 x.2).2.2)
theorem g331 : GoodS Try.prog N331 s331 := by
  refine good (.cons g341 (.cons g368 (.nil _))) H331 rfl (by kernel_rfl) noL [] (noLoops (by kernel_rfl)) [.v I, .v Subset] (by decide) [] _ fun x r hw e => ?_
  obtain ⟨h, s⟩ := x
  cases e
  rw [r331]; unfold bothS
  cases subE h s != 0 with
  | true => exact allSame_rep _ 2
  | false =>
    cases (bif (leavesI h s.1).2 == 0 then s.2 != 0 else false) with
    | true => exact allSame_rep _ 2
    | false => exact allSame_rep _ 2
--CUT
end Go.AM.Seat
