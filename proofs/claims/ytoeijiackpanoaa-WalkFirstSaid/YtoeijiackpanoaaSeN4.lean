/- The seat: contracts: whether a leaf is in a subset. -/
import Derived.Test.YtoeijiackpanoaaSeN3
set_option linter.unusedVariables false
set_option maxRecDepth 100000
namespace Go.AM.Seat
open Go Go.AM Go.Proofs

def within (x : Int × Int) (i : Int) : Bool := bif decide (x.1 ≤ i) then decide (i ≤ x.2) else false
theorem r333 (x : Span.D) (i : Int) : run (orc []) noL [] F333 [encV Span x, .one (.rp false U i 0)] [] = some (.one (.bool (within x i))) := by kernel_rfl
def s333 : Sp := .fn [.v Span, .raw] fun x => match x.2 with
  | .one (.rp false (.int .u64) i 0) => (true, .one (.bool (within x.1 i)))
  | _ => (false, AV.junk)
theorem g333 : GoodS Try.prog N333 s333 := by
  refine good (OrcOk.nil _) H333 rfl (by kernel_rfl) noL [] (noLoops (by kernel_rfl)) [.v Span, .raw] (by decide) [] _ fun x r hw h => ?_
  obtain ⟨p, c⟩ := x
  simp only at h
  split at h
  · rename_i i
    cases h
    exact r333 p i
  · cases h

/-! ### leaf.is, Check, find, Has: of no set -/
theorem r401 (h i : Int) : run (orc [(N323, s323)]) noL [] F401 (encA [.v I, .v U] (h, i)) [] = some (.one (.bool ((leafI h i).2 == 0))) := by kernel_rfl
def s401 : Sp := .fn [.v I, .v U] fun x => (true, .one (.bool ((leafI x.1 x.2).2 == 0)))
theorem g401 : GoodS Try.prog N401 s401 := by
  refine good (.cons g323 (.nil _)) H401 rfl (by kernel_rfl) noL [] (noLoops (by kernel_rfl)) [.v I, .v U] (by decide) [] _ fun x r hw e => ?_
  cases e
  exact r401 x.1 x.2
abbrev live400 : List (Nat × Dir) := [(16, .keep), (17, .keep)]
def Λ400 : Lam AV := fun cur vs K =>
  match cur, vs with
  | 0, [.one (.int .i64 0), .one (.int .i64 0)] => K (.exit 0) [.one (.int .i64 0), .one (.int .i64 0)]
  | _, _ => none
def Γ400 : Orc := orc [(N366, s366), (N401, s401)]
theorem loop400 : LoopP tb Γ400 Λ400 ⟨40, 0, [(0, live400)]⟩ (loop1 F400) := by
  intro vs K out h
  have hcur : (loop1 F400).1 = 0 := by kernel_rfl
  rw [hcur] at h ⊢
  unfold Λ400 at h
  split at h
  · refine ⟨1, Eq.trans ?_ h⟩
    kernel_rfl
  · cases h
theorem r400 (h : Int) : run Γ400 Λ400 [(0, live400)] F400 (encA [.v I, .v (.sl U)] (h, [])) [] =
    bif bif chkI h 1 != 0 then true else decide ((([] : List Int).length : Int) > 1024) then some (.one (.int .i64 1)) else some (.one (.int .i64 0)) := by kernel_rfl
def lchk (h : Int) : Int := bif chkI h 1 != 0 then 1 else 0
def s400 : Sp := .fn [.v I, .v (.sl U)] fun x => (x.2.isEmpty, .one (.int .i64 (lchk x.1)))
theorem g400 : GoodS Try.prog N400 s400 := by
  refine good (.cons g366 (.cons g401 (.nil _))) H400 rfl (by kernel_rfl) Λ400 [(0, live400)] (oneLoop (p0 := loop1 F400) (by kernel_rfl) loop400) [.v I, .v (.sl U)] (by decide) [] _ fun x r hw e => ?_
  obtain ⟨h, l⟩ := x
  cases l with
  | cons _ _ => cases e
  | nil =>
    cases e
    refine (r400 h).trans ?_
    unfold lchk
    cases chkI h 1 != 0 <;> rfl
def rib (k : Int) (b : Bool) : AV := .tup [(false, [.int .i64 k]), (false, [.bool b])]
theorem r423 (x : Int) : run (orc []) noL [] F423 (encA [.v U] x) [] = some (.one (.bool (x != x))) := by kernel_rfl
def s423 : Sp := .fn [.v U] fun x => (true, .one (.bool false))
theorem g423 : GoodS Try.prog N423 s423 := by
  refine good (.nil _) H423 rfl (by kernel_rfl) noL [] (noLoops (by kernel_rfl)) [.v U] (by decide) [] _ fun x r hw e => ?_
  cases e
  rw [r423]; simp
abbrev live402 : List (Nat × Dir) := [(0, .keep), (1, .keep), (6, .keep), (7, .keep), (8, .keep)]
def Λ402 : Lam AV := fun cur vs K =>
  match cur, vs with
  | 0, [.one (.sl false (.int .u64) none []), .one (.int .u64 x), .one (.int .i64 0), .one (.int .i64 0), .one (.int .i64 0)] =>
    K (.exit 0) [.one (.sl false U none []), .one (.int .u64 x), .one (.int .i64 0), .one (.int .i64 0), .one (.int .i64 0)]
  | _, _ => none
theorem loop402 : LoopP tb (orc [(N423, s423)]) Λ402 ⟨54, 0, [(0, live402)]⟩ (loop1 F402) := by
  intro vs K out h
  have hcur : (loop1 F402).1 = 0 := by kernel_rfl
  rw [hcur] at h ⊢
  unfold Λ402 at h
  split at h
  · refine ⟨1, Eq.trans ?_ h⟩
    kernel_rfl
  · cases h
theorem r402 (i : Int) : run (orc [(N423, s423)]) Λ402 [(0, live402)] F402 (encA [.v (.sl U), .v U] ([], i)) [] = some (rib 0 false) := by kernel_rfl
def s402 : Sp := .fn [.v (.sl U), .v U] fun x => (x.1.isEmpty, rib 0 false)
theorem g402 : GoodS Try.prog N402 s402 := by
  refine good (.cons g423 (.nil _)) H402 rfl (by kernel_rfl) Λ402 [(0, live402)] (oneLoop (p0 := loop1 F402) (by kernel_rfl) loop402) [.v (.sl U), .v U] (by decide) [] _ fun x r hw e => ?_
  obtain ⟨l, i⟩ := x
  cases l with
  | cons _ _ => cases e
  | nil =>
    cases e
    exact r402 i
def rif (k : Int) (b : Bool) (e : Int) : AV := .tup [(false, [.int .i64 k]), (false, [.bool b]), (false, [.int .i64 e])]
def noLeaf (h i : Int) : Bool := bif lchk h != 0 then true else !((leafI h i).2 == 0)
theorem r369 (h i : Int) : run (orc [(N400, s400), (N401, s401), (N402, s402)]) noL [] F369 (encA [.v I, .v (.sl U), .v U] (h, [], i)) [] = bif noLeaf h i then some (rif 0 false 1) else some (rif 0 false 0) := by kernel_rfl
def s369 : Sp := .fn [.v I, .v (.sl U), .v U] fun x => (x.2.1.isEmpty, rif 0 false (bif noLeaf x.1 x.2.2 then 1 else 0))
theorem g369 : GoodS Try.prog N369 s369 := by
  refine good (.cons g400 (.cons g401 (.cons g402 (.nil _)))) H369 rfl (by kernel_rfl) noL [] (noLoops (by kernel_rfl)) [.v I, .v (.sl U), .v U] (by decide) [] _ fun x r hw e => ?_
  obtain ⟨h, l, i⟩ := x
  cases l with
  | cons _ _ => cases e
  | nil =>
    cases e
    refine (r369 h i).trans ?_
    show _ = some (rif 0 false (bif noLeaf h i then 1 else 0))
    cases noLeaf h i <;> rfl
theorem r332 (h i : Int) : run (orc [(N369, s369)]) noL [] F332 (encA [.v I, .v (.sl U), .v U] (h, [], i)) [] = some (rb2 false (bif noLeaf h i then 1 else 0)) := by kernel_rfl
def s332 : Sp := .fn [.v I, .v (.sl U), .v U] fun x => (x.2.1.isEmpty, rb2 false (bif noLeaf x.1 x.2.2 then 1 else 0))
theorem g332 : GoodS Try.prog N332 s332 := by
  refine good (.cons g369 (.nil _)) H332 rfl (by kernel_rfl) noL [] (noLoops (by kernel_rfl)) [.v I, .v (.sl U), .v U] (by decide) [] _ fun x r hw e => ?_
  obtain ⟨h, l, i⟩ := x
  cases l with
  | cons _ _ => cases e
  | nil =>
    cases e
    exact r332 h i

/-! ### sub.Has -/
def badH (h : Int) (s : Subset.D) (i : Int) : Bool := bif (bothS h s).2.2 != 0 then true else (bif noLeaf h i then 1 else 0 : Int) != 0
def inS (h : Int) (s : Subset.D) (i : Int) : Bool := bif within (bothS h s).1 i then bif s.2 == 0 then true else !within (bothS h s).2.1 i else false
def hasI (h : Int) (s : Subset.D) (i : Int) : Bool × Int := bif badH h s i then (false, 1) else (inS h s i, 0)
theorem r312 (h : Int) (s : Subset.D) (i : Int) : run (orc [(N331, s331), (N332, s332), (N333, s333)]) noL [] F312 (encA [.v I, .v Subset, .v U] (h, s, i)) [] = bif badH h s i then some (rb2 false 1) else some (rb2 (inS h s i) 0) := by kernel_rfl
def s312 : Sp := .fn [.v I, .v Subset, .v U] fun x => (true, rb2 (hasI x.1 x.2.1 x.2.2).1 (hasI x.1 x.2.1 x.2.2).2)
theorem g312 : GoodS Try.prog N312 s312 := by
  refine good (.cons g331 (.cons g332 (.cons g333 (.nil _)))) H312 rfl (by kernel_rfl) noL [] (noLoops (by kernel_rfl)) [.v I, .v Subset, .v U] (by decide) [] _ fun x r hw e => ?_
  obtain ⟨h, s, i⟩ := x
  cases e
  rw [r312]; unfold hasI
  cases badH h s i <;> rfl
end Go.AM.Seat
