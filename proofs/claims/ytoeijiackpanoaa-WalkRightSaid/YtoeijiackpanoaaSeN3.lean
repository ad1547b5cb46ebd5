/- The seat: contracts: leaves of a node, where two meet; subsets. -/
import Derived.Test.YtoeijiackpanoaaSeN1
set_option linter.unusedVariables false
set_option maxRecDepth 100000
namespace Go.AM.Seat
open Go Go.AM Go.Proofs

@[reducible] def Subset : Ty := .pair U U
@[reducible] def Span : Ty := .pair U U
theorem bad_false {h n : Int} (hb : badN h n = false) : highB h = true ∧ 1 ≤ n ∧ depI n ≤ h := by
  unfold badN at hb
  cases h1 : highB h with
  | false => rw [h1] at hb; cases hb
  | true =>
    rw [h1] at hb
    cases h2 : decide (n < 1) with
    | true => rw [h2] at hb; cases hb
    | false =>
      rw [h2] at hb
      have h2 := of_decide_eq_false h2
      have h3 := of_decide_eq_false hb
      exact ⟨rfl, by omega, by omega⟩
theorem chk_zero {h n : Int} (hc : (chkI h n != 0) = false) : highB h = true ∧ 1 ≤ n ∧ depI n ≤ h := by
  refine bad_false ?_
  cases hb : badN h n with
  | false => rfl
  | true => unfold chkI at hc; rw [hb] at hc; cases hc
theorem dep_wrap {h n : Int} (hw : IntKind.u64.has n) (hc : (chkI h n != 0) = false) : IntKind.i64.wrap (h - depI n) = h - depI n ∧ decide (0 ≤ h - depI n) = true ∧ decide (0 ≤ h) = true := by
  obtain ⟨h1, h2, h3⟩ := chk_zero hc
  have h4 := highB_iff.1 h1
  have h5 := depI_bd hw
  exact ⟨wrap64 (by omega) (by omega), decide_eq_true (by omega), decide_eq_true (by omega)⟩

/-! ### node.Leaves -/
def rs2 (p : Int × Int) (e : Int) : AV := .tup [(true, [.int .u64 p.1, .int .u64 p.2]), (false, [.int .i64 e])]
def lowI (h n d : Int) : Int := IntKind.u64.wrap (shlI n d - shlI 1 h)
def topI (h n d : Int) : Int := IntKind.u64.wrap (IntKind.u64.wrap (lowI h n d + shlI 1 d) - 1)
def leavesI (h n : Int) : (Int × Int) × Int := bif chkI h n != 0 then ((0, 0), chkI h n) else ((lowI h n (h - depI n), topI h n (h - depI n)), 0)
theorem r368 (h n : Int) : run (orc [(N366, s366), (N330, s330)]) noL [] F368 (encA [.v I, .v U] (h, n)) [] =
    bif chkI h n != 0 then some (rs2 (0, 0) (chkI h n)) else
    bif decide (0 ≤ IntKind.i64.wrap (h - depI n)) then bif decide (0 ≤ h) then bif decide (0 ≤ IntKind.i64.wrap (h - depI n)) then
      some (rs2 (lowI h n (IntKind.i64.wrap (h - depI n)), topI h n (IntKind.i64.wrap (h - depI n))) 0) else none else none else none := by kernel_rfl
def s368 : Sp := .fn [.v I, .v U] fun x => (true, rs2 (leavesI x.1 x.2).1 (leavesI x.1 x.2).2)
theorem g368 : GoodS Try.prog N368 s368 := by
  refine good (.cons g366 (.cons g330 (.nil _))) H368 rfl (by kernel_rfl) noL [] (noLoops (by kernel_rfl)) [.v I, .v U] (by decide) [] _ fun x r hw e => ?_
  obtain ⟨h, n⟩ := x
  cases e
  rw [r368]; unfold leavesI
  cases hc : chkI h n != 0 with
  | true => rfl
  | false =>
    obtain ⟨e1, e2, e3⟩ := dep_wrap hw.2 hc
    rw [e1, e2, e3]; rfl
/-! ### node.Meet -/
def xorI (a b : Int) : Int := IntKind.u64.wrap (BitVec.ofInt 64 a ^^^ BitVec.ofInt 64 b).toNat
def meetF (x y : Int) : Option AV := bif decide (0 ≤ lenI (xorI x y)) then some (re2 (shrI x (lenI (xorI x y))) 0) else none
def meetP (a b m : Int) : Option AV := bif decide (0 ≤ IntKind.i64.wrap (depI a - m)) then bif decide (0 ≤ IntKind.i64.wrap (depI b - m)) then meetF (shrI a (IntKind.i64.wrap (depI a - m))) (shrI b (IntKind.i64.wrap (depI b - m))) else none else none
def meetQ (a b m : Int) : Option AV := bif decide (0 ≤ IntKind.i64.wrap (depI b - m)) then bif decide (0 ≤ IntKind.i64.wrap (depI a - m)) then meetF (shrI a (IntKind.i64.wrap (depI a - m))) (shrI b (IntKind.i64.wrap (depI b - m))) else none else none
theorem r361 (h a b : Int) : run (orc [(N328, s328), (N330, s330), (N119, s119)]) noL [] F361 (encA [.v I, .v U, .v U] (h, a, b)) [] =
    bif bothI h a b != 0 then some (re2 0 (bothI h a b)) else allSame [meetP a b (minI (depI a) (depI b)), meetP a b (minI (depI a) (depI b)), meetP a b (minI (depI a) (depI b)), meetP a b (minI (depI a) (depI b)), meetP a b (minI (depI a) (depI b)), meetP a b (minI (depI a) (depI b)), meetP a b (minI (depI a) (depI b)), meetP a b (minI (depI a) (depI b)), meetQ a b (minI (depI a) (depI b)), meetP a b (minI (depI a) (depI b)), meetP a b (minI (depI a) (depI b)), meetP a b (minI (depI a) (depI b)), meetP a b (minI (depI a) (depI b)), meetP a b (minI (depI a) (depI b)), meetQ a b (minI (depI a) (depI b)), meetP a b (minI (depI a) (depI b)), meetP a b (minI (depI a) (depI b)), meetQ a b (minI (depI a) (depI b)), meetQ a b (minI (depI a) (depI b))] := by kernel_rfl
theorem minI_le (a b : Int) : minI a b ≤ a ∧ minI a b ≤ b ∧ (minI a b = a ∨ minI a b = b) := by
  unfold minI; split <;> omega
theorem lenI_nonneg (n : Int) : 0 ≤ lenI n := by
  unfold lenI
  cases decide (n ≤ 0) with
  | true => exact Int.le_refl 0
  | false => show (0 : Int) ≤ (n.toNat.log2 : Int) + 1; omega
def meetI (h a b : Int) : Int × Int := bif bothI h a b != 0 then (0, bothI h a b) else
  (shrI (shrI a (depI a - minI (depI a) (depI b))) (lenI (xorI (shrI a (depI a - minI (depI a) (depI b))) (shrI b (depI b - minI (depI a) (depI b))))), 0)
def s361 : Sp := .fn [.v I, .v U, .v U] fun x => (true, re2 (meetI x.1 x.2.1 x.2.2).1 (meetI x.1 x.2.1 x.2.2).2)
theorem meet_guard {a b : Int} (ha : IntKind.u64.has a) (hb : IntKind.u64.has b) : IntKind.i64.wrap (depI a - minI (depI a) (depI b)) = depI a - minI (depI a) (depI b) ∧
    IntKind.i64.wrap (depI b - minI (depI a) (depI b)) = depI b - minI (depI a) (depI b) ∧ decide (0 ≤ depI a - minI (depI a) (depI b)) = true ∧ decide (0 ≤ depI b - minI (depI a) (depI b)) = true := by
  have h1 := depI_bd ha
  have h2 := depI_bd hb
  obtain ⟨m1, m2, m3⟩ := minI_le (depI a) (depI b)
  generalize minI (depI a) (depI b) = m at *
  exact ⟨wrap64 (by omega) (by omega), wrap64 (by omega) (by omega), decide_eq_true (by omega), decide_eq_true (by omega)⟩
theorem g361 : GoodS Try.prog N361 s361 := by
  refine good (.cons g328 (.cons g330 (.cons g119 (.nil _)))) H361 rfl (by kernel_rfl) noL [] (noLoops (by kernel_rfl)) [.v I, .v U, .v U] (by decide) [] _ fun x r hw e => ?_
  obtain ⟨h, a, b⟩ := x
  cases e
  obtain ⟨e1, e2, e3, e4⟩ := meet_guard (a := a) (b := b) hw.2.1 hw.2.2
  rw [r361]
  unfold meetP meetQ meetF meetI
  rw [e1, e2, e3, e4, decide_eq_true (lenI_nonneg _)]
  cases bothI h a b != 0 with
  | true => rfl
  | false => exact allSame_rep _ 18

/-! ### sub.Check -/
def subE (h : Int) (s : Subset.D) : Int := bif s.2 == 0 then chkI h s.1 else bif (bif bif (aboveI h s.1 s.2).2 != 0 then true else !(aboveI h s.1 s.2).1 then true else s.1 == s.2) then 1 else 0
theorem r341 (h : Int) (s : Subset.D) : run (orc [(N366, s366), (N375, s375)]) noL [] F341 (encA [.v I, .v Subset] (h, s)) [] =
    bif s.2 == 0 then some (.one (.int .i64 (chkI h s.1))) else bif (bif bif (aboveI h s.1 s.2).2 != 0 then true else !(aboveI h s.1 s.2).1 then true else s.1 == s.2) then some (.one (.int .i64 1)) else some (.one (.int .i64 0)) := by kernel_rfl
def s341 : Sp := .fn [.v I, .v Subset] fun x => (true, .one (.int .i64 (subE x.1 x.2)))
theorem g341 : GoodS Try.prog N341 s341 := by
  refine good (.cons g366 (.cons g375 (.nil _))) H341 rfl (by kernel_rfl) noL [] (noLoops (by kernel_rfl)) [.v I, .v Subset] (by decide) [] _ fun x r hw e => ?_
  obtain ⟨h, s⟩ := x
  cases e
  rw [r341]; unfold subE
  cases s.2 == 0 with
  | true => rfl
  | false => cases (bif bif (aboveI h s.1 s.2).2 != 0 then true else !(aboveI h s.1 s.2).1 then true else s.1 == s.2) <;> rfl

/-! ### sub.both -/
def rss (p q : Int × Int) (e : Int) : AV := .tup [(true, [.int .u64 p.1, .int .u64 p.2]), (true, [.int .u64 q.1, .int .u64 q.2]), (false, [.int .i64 e])]
def bothS (h : Int) (s : Subset.D) : (Int × Int) × (Int × Int) × Int := bif subE h s != 0 then ((0, 0), (0, 0), subE h s) else
  bif (bif (leavesI h s.1).2 == 0 then s.2 != 0 else false) then ((leavesI h s.1).1, (leavesI h s.2).1, (leavesI h s.2).2) else ((leavesI h s.1).1, (0, 0), (leavesI h s.1).2)
theorem r331 (h : Int) (s : Subset.D) : run (orc [(N341, s341), (N368, s368)]) noL [] F331 (encA [.v I, .v Subset] (h, s)) [] =
    bif subE h s != 0 then allSame (List.replicate 3 (some (rss (0, 0) (0, 0) (subE h s)))) else
    bif (bif (leavesI h s.1).2 == 0 then s.2 != 0 else false) then allSame (List.replicate 3 (some (rss (leavesI h s.1).1 (leavesI h s.2).1 (leavesI h s.2).2))) else allSame (List.replicate 3 (some (rss (leavesI h s.1).1 (0, 0) (leavesI h s.1).2))) := by kernel_rfl
def s331 : Sp := .fn [.v I, .v Subset] fun x => (true, rss (bothS x.1 x.2).1 (bothS x.1 x.2).2.1 (bothS x.1 x.2).2.2)
theorem g331 : GoodS Try.prog N331 s331 := by
  refine good (.cons g341 (.cons g368 (.nil _))) H331 rfl (by kernel_rfl) noL [] (noLoops (by kernel_rfl)) [.v I, .v Subset] (by decide) [] _ fun x r hw e => ?_
  obtain ⟨h, s⟩ := x
  cases e
  rw [r331]; unfold bothS
  cases subE h s != 0 with
  | true => exact allSame_rep _ 2
  | false =>
    cases (bif (leavesI h s.1).2 == 0 then s.2 != 0 else false) with
    | true => exact allSame_rep _ 2
    | false => exact allSame_rep _ 2
--CUT

def within (x : Int × Int) (i : Int) : Bool := bif decide (x.1 ≤ i) then decide (i ≤ x.2) else false
theorem r333 (x : Span.D) (i : Int) : run (orc []) noL [] F333 [encV Span x, .one (.rp false U i 0)] [] = some (.one (.bool (within x i))) := by kernel_rfl
def s333 : Sp := .fn [.v Span, .raw] fun x => match x.2 with
  | .one (.rp false (.int .u64) i 0) => (true, .one (.bool (within x.1 i)))
  | _ => (false, AV.junk)
theorem g333 : GoodS Try.prog N333 s333 := by
  refine good (OrcOk.nil _) H333 rfl (by kernel_rfl) noL [] (noLoops (by kernel_rfl)) [.v Span, .raw] (by decide) [] _ fun x r hw h => ?_
  obtain ⟨p, c⟩ := x
  simp only at h
  split at h
  · rename_i i
    cases h
    exact r333 p i
  · cases h

/-! ### leaf.is, Check, find, Has: of no set -/
theorem r401 (h i : Int) : run (orc [(N323, s323)]) noL [] F401 (encA [.v I, .v U] (h, i)) [] = some (.one (.bool ((leafI h i).2 == 0))) := by kernel_rfl
def s401 : Sp := .fn [.v I, .v U] fun x => (true, .one (.bool ((leafI x.1 x.2).2 == 0)))
theorem g401 : GoodS Try.prog N401 s401 := by
  refine good (.cons g323 (.nil _)) H401 rfl (by kernel_rfl) noL [] (noLoops (by kernel_rfl)) [.v I, .v U] (by decide) [] _ fun x r hw e => ?_
  cases e
  exact r401 x.1 x.2
abbrev live400 : List (Nat × Dir) := [(16, .keep), (17, .keep)]
def Λ400 : Lam AV := fun cur vs K =>
  match cur, vs with
  | 0, [.one (.int .i64 0), .one (.int .i64 0)] => K (.exit 0) [.one (.int .i64 0), .one (.int .i64 0)]
  | _, _ => none
def Γ400 : Orc := orc [(N366, s366), (N401, s401)]
theorem loop400 : LoopP tb Γ400 Λ400 ⟨40, 0, [(0, live400)]⟩ (loop1 F400) := by
  intro vs K out h
  have hcur : (loop1 F400).1 = 0 := by kernel_rfl
  rw [hcur] at h ⊢
  unfold Λ400 at h
  split at h
  · refine ⟨1, Eq.trans ?_ h⟩
    kernel_rfl
  · cases h
theorem r400 (h : Int) : run Γ400 Λ400 [(0, live400)] F400 (encA [.v I, .v (.sl U)] (h, [])) [] =
    bif bif chkI h 1 != 0 then true else decide ((([] : List Int).length : Int) > 1024) then some (.one (.int .i64 1)) else some (.one (.int .i64 0)) := by kernel_rfl
def lchk (h : Int) : Int := bif chkI h 1 != 0 then 1 else 0
def s400 : Sp := .fn [.v I, .v (.sl U)] fun x => (x.2.isEmpty, .one (.int .i64 (lchk x.1)))
theorem g400 : GoodS Try.prog N400 s400 := by
  refine good (.cons g366 (.cons g401 (.nil _))) H400 rfl (by kernel_rfl) Λ400 [(0, live400)] (oneLoop (p0 := loop1 F400) (by kernel_rfl) loop400) [.v I, .v (.sl U)] (by decide) [] _ fun x r hw e => ?_
  obtain ⟨h, l⟩ := x
  cases l with
  | cons _ _ => cases e
  | nil =>
    cases e
    refine (r400 h).trans ?_
    unfold lchk
    cases chkI h 1 != 0 <;> rfl
def rib (k : Int) (b : Bool) : AV := .tup [(false, [.int .i64 k]), (false, [.bool b])]
theorem r423 (x : Int) : run (orc []) noL [] F423 (encA [.v U] x) [] = some (.one (.bool (x != x))) := by kernel_rfl
def s423 : Sp := .fn [.v U] fun x => (true, .one (.bool false))
theorem g423 : GoodS Try.prog N423 s423 := by
  refine good (.nil _) H423 rfl (by kernel_rfl) noL [] (noLoops (by kernel_rfl)) [.v U] (by decide) [] _ fun x r hw e => ?_
  cases e
  rw [r423]; simp
abbrev live402 : List (Nat × Dir) := [(0, .keep), (1, .keep), (6, .keep), (7, .keep), (8, .keep)]
def Λ402 : Lam AV := fun cur vs K =>
  match cur, vs with
  | 0, [.one (.sl false (.int .u64) none []), .one (.int .u64 x), .one (.int .i64 0), .one (.int .i64 0), .one (.int .i64 0)] =>
    K (.exit 0) [.one (.sl false U none []), .one (.int .u64 x), .one (.int .i64 0), .one (.int .i64 0), .one (.int .i64 0)]
  | _, _ => none
theorem loop402 : LoopP tb (orc [(N423, s423)]) Λ402 ⟨54, 0, [(0, live402)]⟩ (loop1 F402) := by
  intro vs K out h
  have hcur : (loop1 F402).1 = 0 := by kernel_rfl
  rw [hcur] at h ⊢
  unfold Λ402 at h
  split at h
  · refine ⟨1, Eq.trans ?_ h⟩
    kernel_rfl
  · cases h
theorem r402 (i : Int) : run (orc [(N423, s423)]) Λ402 [(0, live402)] F402 (encA [.v (.sl U), .v U] ([], i)) [] = some (rib 0 false) := by kernel_rfl
def s402 : Sp := .fn [.v (.sl U), .v U] fun x => (x.1.isEmpty, rib 0 false)
theorem g402 : GoodS Try.prog N402 s402 := by
  refine good (.cons g423 (.nil _)) H402 rfl (by kernel_rfl) Λ402 [(0, live402)] (oneLoop (p0 := loop1 F402) (by kernel_rfl) loop402) [.v (.sl U), .v U] (by decide) [] _ fun x r hw e => ?_
  obtain ⟨l, i⟩ := x
  cases l with
  | cons _ _ => cases e
  | nil =>
    cases e
    exact r402 i
def rif (k : Int) (b : Bool) (e : Int) : AV := .tup [(false, [.int .i64 k]), (false, [.bool b]), (false, [.int .i64 e])]
def noLeaf (h i : Int) : Bool := bif lchk h != 0 then true else !((leafI h i).2 == 0)
theorem r369 (h i : Int) : run (orc [(N400, s400), (N401, s401), (N402, s402)]) noL [] F369 (encA [.v I, .v (.sl U), .v U] (h, [], i)) [] = bif noLeaf h i then some (rif 0 false 1) else some (rif 0 false 0) := by kernel_rfl
def s369 : Sp := .fn [.v I, .v (.sl U), .v U] fun x => (x.2.1.isEmpty, rif 0 false (bif noLeaf x.1 x.2.2 then 1 else 0))
theorem g369 : GoodS Try.prog N369 s369 := by
  refine good (.cons g400 (.cons g401 (.cons g402 (.nil _)))) H369 rfl (by kernel_rfl) noL [] (noLoops (by kernel_rfl)) [.v I, .v (.sl U), .v U] (by decide) [] _ fun x r hw e => ?_
  obtain ⟨h, l, i⟩ := x
  cases l with
  | cons _ _ => cases e
  | nil =>
    cases e
    refine (r369 h i).trans ?_
    show _ = some (rif 0 false (bif noLeaf h i then 1 else 0))
    cases noLeaf h i <;> rfl
theorem r332 (h i : Int) : run (orc [(N369, s369)]) noL [] F332 (encA [.v I, .v (.sl U), .v U] (h, [], i)) [] = some (rb2 false (bif noLeaf h i then 1 else 0)) := by kernel_rfl
def s332 : Sp := .fn [.v I, .v (.sl U), .v U] fun x => (x.2.1.isEmpty, rb2 false (bif noLeaf x.1 x.2.2 then 1 else 0))
theorem g332 : GoodS Try.prog N332 s332 := by
  refine good (.cons g369 (.nil _)) H332 rfl (by kernel_rfl) noL [] (noLoops (by kernel_rfl)) [.v I, .v (.sl U), .v U] (by decide) [] _ fun x r hw e => ?_
  obtain ⟨h, l, i⟩ := x
  cases l with
  | cons _ _ => cases e
  | nil =>
    cases e
    exact r332 h i

/-! ### sub.Has -/
def badH (h : Int) (s : Subset.D) (i : Int) : Bool := bif (bothS h s).2.2 != 0 then true else (bif noLeaf h i then 1 else 0 : Int) != 0
def inS (h : Int) (s : Subset.D) (i : Int) : Bool := bif within (bothS h s).1 i then bif s.2 == 0 then true else !within (bothS h s).2.1 i else false
def hasI (h : Int) (s : Subset.D) (i : Int) : Bool × Int := bif badH h s i then (false, 1) else (inS h s i, 0)
theorem r312 (h : Int) (s : Subset.D) (i : Int) : run (orc [(N331, s331), (N332, s332), (N333, s333)]) noL [] F312 (encA [.v I, .v Subset, .v U] (h, s, i)) [] = bif badH h s i then some (rb2 false 1) else some (rb2 (inS h s i) 0) := by kernel_rfl
def s312 : Sp := .fn [.v I, .v Subset, .v U] fun x => (true, rb2 (hasI x.1 x.2.1 x.2.2).1 (hasI x.1 x.2.1 x.2.2).2)
theorem g312 : GoodS Try.prog N312 s312 := by
  refine good (.cons g331 (.cons g332 (.cons g333 (.nil _)))) H312 rfl (by kernel_rfl) noL [] (noLoops (by kernel_rfl)) [.v I, .v Subset, .v U] (by decide) [] _ fun x r hw e => ?_
  obtain ⟨h, s, i⟩ := x
  cases e
  rw [r312]; unfold hasI
  cases badH h s i <;> rfl
end Go.AM.Seat
