/- The seat: contracts: values of terms. -/
import Derived.Test.YtnkdeglckmogcaaSeT3
import Derived.Test.YtnkdeglckmogcaaSe1
set_option linter.unusedVariables false
set_option maxRecDepth 100000
namespace Go.AM.Seat
open Go Go.AM Go.Proofs

/-! ### values -/
def zeroV : Value.D := (false, false, (0, 0), ((0, 0), (0, 0)), 0)
def symV (i : Int) : Value.D := (true, false, (0, 0), ((0, 0), (0, 0)), i)
def sealV (s : Sealed.D) : Value.D := (false, true, (0, 0), s, 0)
def octV (b : Block.D) : Value.D := (false, false, b, ((0, 0), (0, 0)), 0)
def valEq (a b : Value.D) : Bool :=
  (a.1 == b.1) && ((a.2.1 == b.2.1) && ((a.2.2.1.1 == b.2.2.1.1) && ((a.2.2.1.2 == b.2.2.1.2) && ((a.2.2.2.1.1.1 == b.2.2.2.1.1.1) && ((a.2.2.2.1.1.2 == b.2.2.2.1.1.2) &&
    ((a.2.2.2.1.2.1 == b.2.2.2.1.2.1) && ((a.2.2.2.1.2.2 == b.2.2.2.1.2.2) && (a.2.2.2.2 == b.2.2.2.2))))))))
/-- A value, terms, and an error, as they are handed back. -/
def vle (x : Value.D × List Term.D × Int) : AV := .tup [(true, enc Value true x.1), (false, [.sl true Term none x.2.1]), (false, [.int .i64 x.2.2])]
abbrev wVle : List WK := [.id, .sl true Term, .id]
def Γ45 : Orc := orc [(N84, s84)]
def madeV (l : List Term.D) (t : Term.D) : Value.D × List Term.D × Int := bif (makeL l t).2.2 != 0 then (zeroV, [], (makeL l t).2.2) else (symV (makeL l t).1, (makeL l t).2.1, 0)
theorem r45 (l : List Term.D) (t : Term.D) : run Γ45 noL [] F45 (encA [.v (.sl Term), .v Term] (l, t)) wVle =
    bif (makeL l t).2.2 != 0 then some (vle (zeroV, [], (makeL l t).2.2)) else some (vle (symV (makeL l t).1, (makeL l t).2.1, 0)) := by kernel_rfl
def s45 : Sp := .fn [.v (.sl Term), .v Term] fun x => (true, vle (madeV x.1 x.2))
theorem g45 : GoodS Try.prog N45 s45 := by
  refine good (.cons g84 (.nil _)) H45 rfl (by kernel_rfl) noL [] (noLoops (by kernel_rfl)) [.v (.sl Term), .v Term] (by decide) wVle _ fun x r hw h => ?_
  cases h
  refine (r45 x.1 x.2).trans ?_
  simp only [madeV]
  cases (makeL x.1 x.2).2.2 != 0 <;> rfl

def Γ19 : Orc := orc [(N49, s49)]
def isSym (l : List Term.D) (v : Value.D) : Bool := bif bif v.1 then decide (v.2.2.2.2 ≥ 0) else false then decide (v.2.2.2.2 < (l.length : Int)) else false
def plainV (l : List Term.D) (v : Value.D) : Value.D := bif isSym l v then symV v.2.2.2.2 else bif v.2.1 then sealV v.2.2.2.1 else octV v.2.2.1
def checkV (l : List Term.D) (v : Value.D) : Int := bif bif checkL l == 0 then !valEq v (plainV l v) else false then 1 else checkL l
def fin19 (l : List Term.D) (v p : Value.D) : Option AV := bif bif checkL l == 0 then !valEq v p else false then some (.one (.int .i64 1)) else some (.one (.int .i64 (checkL l)))
theorem r19 (l : List Term.D) (v : Value.D) : run Γ19 noL [] F19 (encA [.v (.sl Term), .v Value] (l, v)) [] =
    bif isSym l v then fin19 l v (symV v.2.2.2.2) else bif v.2.1 then fin19 l v (sealV v.2.2.2.1) else fin19 l v (octV v.2.2.1) := by kernel_rfl
def s19 : Sp := .fn [.v (.sl Term), .v Value] fun x => (true, .one (.int .i64 (checkV x.1 x.2)))
theorem g19 : GoodS Try.prog N19 s19 := by
  refine good (.cons g49 (.nil _)) H19 rfl (by kernel_rfl) noL [] (noLoops (by kernel_rfl)) [.v (.sl Term), .v Value] (by decide) [] _ fun x r hw h => ?_
  obtain ⟨l, v⟩ := x
  cases h
  refine (r19 l v).trans ?_
  simp only [checkV, plainV, fin19]
  cases isSym l v <;> cases v.2.1 <;> simp only [cond_true, cond_false] <;> (cases bif checkL l == 0 then !valEq v _ else false) <;> rfl
end Go.AM.Seat
