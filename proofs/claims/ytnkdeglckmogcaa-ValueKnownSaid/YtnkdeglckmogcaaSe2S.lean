/- The seat: contracts: what is sealed. -/
import Derived.Test.YtnkdeglckmogcaaSe1
set_option linter.unusedVariables false
set_option maxRecDepth 100000
namespace Go.AM.Seat
open Go Go.AM Go.Proofs

/-! ### what is sealed -/
def Γ85 : Orc := orc [(N53, s53)]
def out85 (b : Block.D) : AV := .tup [(true, enc Block true (partR b 3).1), (true, enc Block true (partR b 4).1)]
theorem r85 (b : Block.D) : run Γ85 noL [] F85 (encA [.v Block] b) [] = bif sameO (out85 b) [some (out85 b), some (out85 b)] then some (out85 b) else none := by kernel_rfl
def s85 : Sp := .fn [.v Block] fun x => (true, .tup [(true, enc Block true (partB x 3)), (true, enc Block true (partB x 4))])
theorem g85 : GoodS Try.prog N85 s85 := by
  refine good (.cons g53 (.nil _)) H85 rfl (by kernel_rfl) noL [] (noLoops (by kernel_rfl)) [.v Block] (by decide) [] _ fun x r hw h => ?_
  cases h
  refine (r85 x).trans ?_
  have h1 : Same.eq (out85 x) (out85 x) = true := same_self _
  rw [show sameO (out85 x) [some (out85 x), some (out85 x)] = true by simp [sameO, h1]]
  rfl
def tagB (k c : Block.D) : Block.D := mixB (xorB (partB k 4) c)
def Γ87 : Orc := orc [(N85, s85), (N86, s86), (N92, s92)]
theorem r87 (k c : Block.D) : run Γ87 noL [] F87 (encA [.v Block, .v Block] (k, c)) [] = some (encV Block (tagB k c)) := by kernel_rfl
def s87 : Sp := .fn [.v Block, .v Block] fun x => (true, encV Block (tagB x.1 x.2))
theorem g87 : GoodS Try.prog N87 s87 := by
  refine good (.cons g85 (.cons g86 (.cons g92 (.nil _)))) H87 rfl (by kernel_rfl) noL [] (noLoops (by kernel_rfl)) [.v Block, .v Block] (by decide) [] _ fun x r hw h => ?_
  cases h
  exact r87 x.1 x.2
def wrapB (k b : Block.D) : Sealed.D := (xorB b (partB k 3), tagB k (xorB b (partB k 3)))
def Γ46 : Orc := orc [(N85, s85), (N86, s86), (N87, s87)]
theorem r46 (k b : Block.D) : run Γ46 noL [] F46 (encA [.v Block, .v Block] (k, b)) [] = some (encV Sealed (wrapB k b)) := by kernel_rfl
def s46 : Sp := .fn [.v Block, .v Block] fun x => (true, encV Sealed (wrapB x.1 x.2))
theorem g46 : GoodS Try.prog N46 s46 := by
  refine good (.cons g85 (.cons g86 (.cons g87 (.nil _)))) H46 rfl (by kernel_rfl) noL [] (noLoops (by kernel_rfl)) [.v Block, .v Block] (by decide) [] _ fun x r hw h => ?_
  cases h
  exact r46 x.1 x.2
def Γ48 : Orc := orc [(N46, s46), (N85, s85), (N86, s86)]
def sealedEq (a b : Sealed.D) : Bool := (a.1.1 == b.1.1) && ((a.1.2 == b.1.2) && ((a.2.1 == b.2.1) && (a.2.2 == b.2.2)))
def openB (k : Block.D) (s : Sealed.D) : Block.D := xorB s.1 (partB k 3)
def unwrapR (k : Block.D) (s : Sealed.D) : Block.D × Int := bif !sealedEq (wrapB k (openB k s)) s then ((0, 0), 7) else (openB k s, 0)
theorem r48 (k : Block.D) (s : Sealed.D) : run Γ48 noL [] F48 (encA [.v Block, .v Sealed] (k, s)) [] =
    bif !sealedEq (wrapB k (openB k s)) s then some (.tup [(true, enc Block true (0, 0)), (false, [.int .i64 7])]) else some (.tup [(true, enc Block true (openB k s)), (false, [.int .i64 0])]) := by kernel_rfl
def s48 : Sp := .fn [.v Block, .v Sealed] fun x => (true, .tup [(true, enc Block true (unwrapR x.1 x.2).1), (false, [.int .i64 (unwrapR x.1 x.2).2])])
theorem g48 : GoodS Try.prog N48 s48 := by
  refine good (.cons g46 (.cons g85 (.cons g86 (.nil _)))) H48 rfl (by kernel_rfl) noL [] (noLoops (by kernel_rfl)) [.v Block, .v Sealed] (by decide) [] _ fun x r hw h => ?_
  cases h
  refine (r48 x.1 x.2).trans ?_
  unfold unwrapR
  cases sealedEq (wrapB x.1 (openB x.1 x.2)) x.2 <;> rfl
end Go.AM.Seat
