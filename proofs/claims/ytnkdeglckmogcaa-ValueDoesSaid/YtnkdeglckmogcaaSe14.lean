/- The seat: contracts: the law of what values do: its walk. -/
import Derived.Test.YtnkdeglckmogcaaSe13
set_option linter.unusedVariables false
set_option maxRecDepth 100000
namespace Go.AM.Seat
open Go Go.AM Go.Proofs

@[reducible] def D7 : List AK := [.v (.sl Term), .v .bool, .v I, .v Block, .v Value, .v Value, .v I]
def fin4 (l m : List Term.D) (b : Bool) : Option AV :=
  bif decide ((m.length : Int) = m.length) && decide ((m.length : Int) ≤ 9223372036854775807) then ob (bif b then sameL l l else false) else none
def conj4 (l m : List Term.D) : List Bool → Option AV
  | [] => fin4 l m true
  | [c] => fin4 l m c
  | c :: r => bif c then conj4 l m r else fin4 l m false
def veq3 (x : Value.D × List Term.D × Int) : List Bool := [valEq x.1 x.1, sameL x.2.1 x.2.1, x.2.2 == x.2.2]
def all4 (l : List Term.D) (s : Bool) (n : Int) (b : Block.D) (v w : Value.D) (i : Int) : List Bool :=
  veq3 (atomV l s n b) ++ veq3 (partV l v i) ++ veq3 (wrapV l v w) ++ [valEq (unwrapV l v w).1 (unwrapV l v w).1, (unwrapV l v w).2 == (unwrapV l v w).2, checkV l v == checkV l v]
theorem r4 (l : List Term.D) (s : Bool) (n : Int) (b : Block.D) (v w : Value.D) (i : Int) : runG Γ4 Λ4 1 [(0, live4)] F4 (encA D7 (l, s, n, b, v, w, i)) [] =
    bif decide ((l.length : Int) > 60) then ob true else
    bif small24 l.length then conj4 l (wrapV l v w).2.1 (all4 l s n b v w i) else none := by kernel_rfl
end Go.AM.Seat
