/- The seat: contracts: mixing. -/
import Derived.Test.YtnkdeglckmogcaaSeT1
set_option linter.unusedVariables false
set_option maxRecDepth 100000
namespace Go.AM.Seat
open Go Go.AM Go.Proofs

/-! ### mix.Xor -/
def xorU (a b : Int) : Int := IntKind.u64.wrap (BitVec.ofInt 64 a ^^^ BitVec.ofInt 64 b).toNat
def xorB (a b : Block.D) : Block.D := (xorU a.1 b.1, xorU a.2 b.2)
abbrev live86 : List (Nat × Dir) := [(2, .keep), (4, .keep), (7, .keep), (8, .keep)]
def Λ86 : Lam AV := fun cur vs K =>
  match cur, vs with
  | 0, [.own [.int .u64 a, .int .u64 b], .own [.int .u64 e, .int .u64 f], .agg [.int .u64 c, .int .u64 d], .one (.int .i64 0)] =>
    K (.exit 0) [.own [.int .u64 (xorU a c), .int .u64 (xorU b d)], .own [.int .u64 e, .int .u64 f], .agg [.int .u64 c, .int .u64 d], .one (.int .i64 2)]
  | _, _ => none
theorem loop86 : LoopP tb (orc []) Λ86 ⟨20, 0, [(0, live86)]⟩ (loop1 F86) := by
  intro vs K out h
  have hcur : (loop1 F86).1 = 0 := by kernel_rfl
  rw [hcur] at h ⊢
  unfold Λ86 at h
  split at h
  · rename_i a b e f c d _
    refine ⟨3, Eq.trans ?_ h⟩
    kernel_rfl
  · cases h
def s86 : Sp := .fn [.v Block, .v Block] fun x => (true, encV Block (xorB x.1 x.2))
theorem r86 (x y : Block.D) : run (orc []) Λ86 [(0, live86)] F86 (encA [.v Block, .v Block] (x, y)) [] = some (encV Block (xorB x y)) := by kernel_rfl
theorem g86 : GoodS Try.prog N86 s86 := by
  refine good (.nil _) H86 rfl (by kernel_rfl) Λ86 [(0, live86)] (oneLoop (p0 := loop1 F86) (by kernel_rfl) loop86) [.v Block, .v Block] (by decide) [] _ fun x r hw h => ?_
  cases h
  exact r86 x.1 x.2

/-! ### bits.RotateLeft64 -/
def rotN (n : Int) : Int := IntKind.u64.wrap (BitVec.ofInt 64 (IntKind.u64.wrap n) &&& BitVec.ofInt 64 63).toNat
def rotU (a n : Int) : Int := IntKind.u64.wrap (BitVec.ofInt 64 (IntKind.u64.wrap (a * 2 ^ min (rotN n).toNat 64)) ||| BitVec.ofInt 64 (a.fdiv (2 ^ min (IntKind.u64.wrap (64 - rotN n)).toNat 64))).toNat
theorem r106 (a n : Int) : run (orc []) noL [] F106 (encA [.v U, .v I] (a, n)) [] = bif decide (0 ≤ rotN n) then (bif decide (0 ≤ IntKind.u64.wrap (64 - rotN n)) then some (.one (.int .u64 (rotU a n))) else none) else none := by kernel_rfl
def s106 : Sp := .fn [.v U, .v I] fun x => (true, .one (.int .u64 (rotU x.1 x.2)))
theorem g106 : GoodS Try.prog N106 s106 := by
  refine good (.nil _) H106 rfl (by kernel_rfl) noL [] (noLoops (by kernel_rfl)) [.v U, .v I] (by decide) [] _ fun x r hw h => ?_
  cases h
  refine (r106 x.1 x.2).trans ?_
  rw [decide_eq_true (show 0 ≤ rotN x.2 from wrapU_nonneg _), decide_eq_true (wrapU_nonneg (64 - rotN x.2))]
  rfl

/-! ### mix.Mix -/
def mixStep (k : Int) (x : Block.D) : Block.D :=
  let a := rotU (IntKind.u64.wrap (IntKind.u64.wrap (x.1 + x.2) + IntKind.u64.wrap (k * 11400714819323198485))) 13
  let b := rotU (xorU x.2 a) 29
  (xorU a b, b)
def mixGo : Nat → Int → Block.D → Block.D
  | 0, _, x => x
  | n + 1, k, x => mixGo n (k + 1) (mixStep k x)
def mixB (x : Block.D) : Block.D := mixGo 8 0 x
abbrev live92 : List (Nat × Dir) := [(2, .keep), (3, .keep), (4, .keep), (10, .keep)]
def Γ92 : Orc := orc [(N106, s106)]
def Λ92 : Lam AV := fun cur vs K =>
  match cur, vs with
  | 0, [.own [.int .u64 e, .int .u64 f], .one (.int .u64 x), .one (.int .u64 y), .one (.int .u64 0)] =>
    K (.exit 0) [.own [.int .u64 e, .int .u64 f], .one (.int .u64 (mixB (x, y)).1), .one (.int .u64 (mixB (x, y)).2), .one (.int .u64 8)]
  | _, _ => none
theorem step92 (e f x y k : Int) (K : AE → List AV → Option AV) (fuel : Nat) :
    loopN (aexec tb Γ92 Λ92 ⟨31, 0, [(0, live92)]⟩ (loop1 F92).2 0) 31 0 live92 K (fuel + 1) [.own [.int .u64 e, .int .u64 f], .one (.int .u64 x), .one (.int .u64 y), .one (.int .u64 k)] =
    bif decide (k < 8) then loopN (aexec tb Γ92 Λ92 ⟨31, 0, [(0, live92)]⟩ (loop1 F92).2 0) 31 0 live92 K fuel
        [.own [.int .u64 e, .int .u64 f], .one (.int .u64 (mixStep k (x, y)).1), .one (.int .u64 (mixStep k (x, y)).2), .one (.int .u64 (IntKind.u64.wrap (k + 1)))]
    else K (.exit 0) [.own [.int .u64 e, .int .u64 f], .one (.int .u64 x), .one (.int .u64 y), .one (.int .u64 k)] := by kernel_rfl
theorem loop92 : LoopP tb Γ92 Λ92 ⟨31, 0, [(0, live92)]⟩ (loop1 F92) := by
  intro vs K out h
  have hcur : (loop1 F92).1 = 0 := by kernel_rfl
  rw [hcur] at h ⊢
  unfold Λ92 at h
  split at h
  · rename_i e f x y _
    have key : ∀ (n : Nat) (k : Int) (x y : Int), k + n = 8 → 0 ≤ k → K (.exit 0) [.own [.int .u64 e, .int .u64 f], .one (.int .u64 (mixGo n k (x, y)).1), .one (.int .u64 (mixGo n k (x, y)).2), .one (.int .u64 8)] = some out →
        ∃ fuel, loopN (aexec tb Γ92 Λ92 ⟨31, 0, [(0, live92)]⟩ (loop1 F92).2 0) 31 0 live92 K fuel [.own [.int .u64 e, .int .u64 f], .one (.int .u64 x), .one (.int .u64 y), .one (.int .u64 k)] = some out := by
      intro n
      induction n with
      | zero =>
        intro k x y hk _ h
        obtain rfl : k = 8 := by omega
        refine ⟨1, ?_⟩
        rw [step92]
        exact h
      | succ n ih =>
        intro k x y hk h0 h
        obtain ⟨fuel, hf⟩ := ih (k + 1) (mixStep k (x, y)).1 (mixStep k (x, y)).2 (by omega) (by omega) h
        refine ⟨fuel + 1, ?_⟩
        rw [step92, decide_eq_true (show k < 8 by omega), wrapU (by omega) (by omega)]
        exact hf
    exact key 8 0 x y rfl (Int.le_refl 0) h
  · cases h
def s92 : Sp := .fn [.v Block] fun x => (true, encV Block (mixB x))
theorem r92 (x : Block.D) : run Γ92 Λ92 [(0, live92)] F92 (encA [.v Block] x) [] = some (encV Block (mixB x)) := by kernel_rfl
theorem g92 : GoodS Try.prog N92 s92 := by
  refine good (.cons g106 (.nil _)) H92 rfl (by kernel_rfl) Λ92 [(0, live92)] (oneLoop (p0 := loop1 F92) (by kernel_rfl) loop92) [.v Block] (by decide) [] _ fun x r hw h => ?_
  cases h
  exact r92 x


/-! ### mix.Part -/
def partB (b : Block.D) (i : Int) : Block.D := xorB (mixB (xorB b (IntKind.u64.wrap (IntKind.i64.wrap (i + 1)), 0))) b
def Γ53 : Orc := orc [(N86, s86), (N92, s92)]
theorem r53 (b : Block.D) (i : Int) : run Γ53 noL [] F53 (encA [.v Block, .v I] (b, i)) [] =
    bif bif decide (i < 0) then true else decide (i > 4) then some (.tup [(true, enc Block true (0, 0)), (false, [.int .i64 1])]) else
    some (.tup [(true, enc Block true (partB b i)), (false, [.int .i64 0])]) := by kernel_rfl
def partR (b : Block.D) (i : Int) : Block.D × Int := bif bif decide (i < 0) then true else decide (i > 4) then ((0, 0), 1) else (partB b i, 0)
def s53 : Sp := .fn [.v Block, .v I] fun x => (true, .tup [(true, enc Block true (partR x.1 x.2).1), (false, [.int .i64 (partR x.1 x.2).2])])
theorem g53 : GoodS Try.prog N53 s53 := by
  refine good (.cons g86 (.cons g92 (.nil _))) H53 rfl (by kernel_rfl) noL [] (noLoops (by kernel_rfl)) [.v Block, .v I] (by decide) [] _ fun x r hw h => ?_
  cases h
  refine (r53 x.1 x.2).trans ?_
  unfold partR
  cases bif decide (x.2 < 0) then true else decide (x.2 > 4) <;> rfl
end Go.AM.Seat
