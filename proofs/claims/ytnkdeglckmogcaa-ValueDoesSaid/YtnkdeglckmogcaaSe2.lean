/- The seat: contracts: blocks, mixed and sealed. -/
import Derived.Test.YtnkdeglckmogcaaSe1
set_option linter.unusedVariables false
set_option maxRecDepth 100000
namespace Go.AM.Seat
open Go Go.AM Go.Proofs


/-! ### mix.Xor -/
def xorU (a b : Int) : Int := IntKind.u64.wrap (BitVec.ofInt 64 a ^^^ BitVec.ofInt 64 b).toNat
def xorB (a b : Block.D) : Block.D := (xorU a.1 b.1, xorU a.2 b.2)
abbrev live86 : List (Nat × Dir) := [(2, .keep), (4, .keep), (7, .keep), (8, .keep)]
def Λ86 : Lam AV := fun cur vs K =>
  match cur, vs with
  | 0, [.own [.int .u64 a, .int .u64 b], .own [.int .u64 e, .int .u64 f], .agg [.int .u64 c, .int .u64 d], .one (.int .i64 0)] =>
    K (.exit 0) [.own [.int .u64 (xorU a c), .int .u64 (xorU b d)], .own [.int .u64 e, .int .u64 f], .agg [.int .u64 c, .int .u64 d], .one (.int .i64 2)]
  | _, _ => none
theorem loop86 : LoopP tb (orc []) Λ86 ⟨20, 0, [(0, live86)]⟩ (loop1 F86) := by
  intro vs K out h
  have hcur : (loop1 F86).1 = 0 := by kernel_rfl
  rw [hcur] at h ⊢
  unfold Λ86 at h
  split at h
  · rename_i a b e f c d _
    refine ⟨3, Eq.trans ?_ h⟩
    kernel_rfl
  · cases h
def s86 : Sp := .fn [.v Block, .v Block] fun x => (true, encV Block (xorB x.1 x.2))
theorem r86 (x y : Block.D) : run (orc []) Λ86 [(0, live86)] F86 (encA [.v Block, .v Block] (x, y)) [] = some (encV Block (xorB x y)) := by kernel_rfl
theorem g86 : GoodS Try.prog N86 s86 := by
  refine good (.nil _) H86 rfl (by kernel_rfl) Λ86 [(0, live86)] (oneLoop (p0 := loop1 F86) (by kernel_rfl) loop86) [.v Block, .v Block] (by decide) [] _ fun x r hw h => ?_
  cases h
  exact r86 x.1 x.2

/-! ### bits.RotateLeft64 -/
def rotN (n : Int) : Int := IntKind.u64.wrap (BitVec.ofInt 64 (IntKind.u64.wrap n) &&& BitVec.ofInt 64 63).toNat
def rotU (a n : Int) : Int := IntKind.u64.wrap (BitVec.ofInt 64 (IntKind.u64.wrap (a * 2 ^ min (rotN n).toNat 64)) ||| BitVec.ofInt 64 (a.fdiv (2 ^ min (IntKind.u64.wrap (64 - rotN n)).toNat 64))).toNat
theorem wrapU_nonneg (n : Int) : 0 ≤ IntKind.u64.wrap n := by
  have := (wrap_has .u64 n).1
  simpa [IntKind.min, IntKind.signed] using this
theorem r106 (a n : Int) : run (orc []) noL [] F106 (encA [.v U, .v I] (a, n)) [] = bif decide (0 ≤ rotN n) then (bif decide (0 ≤ IntKind.u64.wrap (64 - rotN n)) then some (.one (.int .u64 (rotU a n))) else none) else none := by kernel_rfl
def s106 : Sp := .fn [.v U, .v I] fun x => (true, .one (.int .u64 (rotU x.1 x.2)))
theorem g106 : GoodS Try.prog N106 s106 := by
  refine good (.nil _) H106 rfl (by kernel_rfl) noL [] (noLoops (by kernel_rfl)) [.v U, .v I] (by decide) [] _ fun x r hw h => ?_
  cases h
  refine (r106 x.1 x.2).trans ?_
  rw [decide_eq_true (show 0 ≤ rotN x.2 from wrapU_nonneg _), decide_eq_true (wrapU_nonneg (64 - rotN x.2))]
  rfl

/-! ### mix.Mix -/
def mixStep (k : Int) (x : Block.D) : Block.D :=
  let a := rotU (IntKind.u64.wrap (IntKind.u64.wrap (x.1 + x.2) + IntKind.u64.wrap (k * 11400714819323198485))) 13
  let b := rotU (xorU x.2 a) 29
  (xorU a b, b)
def mixGo : Nat → Int → Block.D → Block.D
  | 0, _, x => x
  | n + 1, k, x => mixGo n (k + 1) (mixStep k x)
def mixB (x : Block.D) : Block.D := mixGo 8 0 x
abbrev live92 : List (Nat × Dir) := [(2, .keep), (3, .keep), (4, .keep), (10, .keep)]
def Γ92 : Orc := orc [(N106, s106)]
def Λ92 : Lam AV := fun cur vs K =>
  match cur, vs with
  | 0, [.own [.int .u64 e, .int .u64 f], .one (.int .u64 x), .one (.int .u64 y), .one (.int .u64 0)] =>
    K (.exit 0) [.own [.int .u64 e, .int .u64 f], .one (.int .u64 (mixB (x, y)).1), .one (.int .u64 (mixB (x, y)).2), .one (.int .u64 8)]
  | _, _ => none
theorem step92 (e f x y k : Int) (K : AE → List AV → Option AV) (fuel : Nat) :
    loopN (aexec tb Γ92 Λ92 ⟨31, 0, [(0, live92)]⟩ (loop1 F92).2 0) 31 0 live92 K (fuel + 1) [.own [.int .u64 e, .int .u64 f], .one (.int .u64 x), .one (.int .u64 y), .one (.int .u64 k)] =
    bif decide (k < 8) then loopN (aexec tb Γ92 Λ92 ⟨31, 0, [(0, live92)]⟩ (loop1 F92).2 0) 31 0 live92 K fuel
        [.own [.int .u64 e, .int .u64 f], .one (.int .u64 (mixStep k (x, y)).1), .one (.int .u64 (mixStep k (x, y)).2), .one (.int .u64 (IntKind.u64.wrap (k + 1)))]
    else K (.exit 0) [.own [.int .u64 e, .int .u64 f], .one (.int .u64 x), .one (.int .u64 y), .one (.int .u64 k)] := by kernel_rfl
theorem wrapU {n : Int} (h : 0 ≤ n) (h' : n ≤ 18446744073709551615) : IntKind.u64.wrap n = n := by
  unfold IntKind.wrap; simp [IntKind.signed, IntKind.bits]; omega
theorem loop92 : LoopP tb Γ92 Λ92 ⟨31, 0, [(0, live92)]⟩ (loop1 F92) := by
  intro vs K out h
  have hcur : (loop1 F92).1 = 0 := by kernel_rfl
  rw [hcur] at h ⊢
  unfold Λ92 at h
  split at h
  · rename_i e f x y _
    have key : ∀ (n : Nat) (k : Int) (x y : Int), k + n = 8 → 0 ≤ k → K (.exit 0) [.own [.int .u64 e, .int .u64 f], .one (.int .u64 (mixGo n k (x, y)).1), .one (.int .u64 (mixGo n k (x, y)).2), .one (.int .u64 8)] = some out →
        ∃ fuel, loopN (aexec tb Γ92 Λ92 ⟨31, 0, [(0, live92)]⟩ (loop1 F92).2 0) 31 0 live92 K fuel [.own [.int .u64 e, .int .u64 f], .one (.int .u64 x), .one (.int .u64 y), .one (.int .u64 k)] = some out := by
      intro n
      induction n with
      | zero =>
        intro k x y hk _ h
        obtain rfl : k = 8 := by omega
        refine ⟨1, ?_⟩
        rw [step92]
        exact h
      | succ n ih =>
        intro k x y hk h0 h
        obtain ⟨fuel, hf⟩ := ih (k + 1) (mixStep k (x, y)).1 (mixStep k (x, y)).2 (by omega) (by omega) h
        refine ⟨fuel + 1, ?_⟩
        rw [step92, decide_eq_true (show k < 8 by omega), wrapU (by omega) (by omega)]
        exact hf
    exact key 8 0 x y rfl (Int.le_refl 0) h
  · cases h
def s92 : Sp := .fn [.v Block] fun x => (true, encV Block (mixB x))
theorem r92 (x : Block.D) : run Γ92 Λ92 [(0, live92)] F92 (encA [.v Block] x) [] = some (encV Block (mixB x)) := by kernel_rfl
theorem g92 : GoodS Try.prog N92 s92 := by
  refine good (.cons g106 (.nil _)) H92 rfl (by kernel_rfl) Λ92 [(0, live92)] (oneLoop (p0 := loop1 F92) (by kernel_rfl) loop92) [.v Block] (by decide) [] _ fun x r hw h => ?_
  cases h
  exact r92 x


/-! ### mix.Part -/
def partB (b : Block.D) (i : Int) : Block.D := xorB (mixB (xorB b (IntKind.u64.wrap (IntKind.i64.wrap (i + 1)), 0))) b
def Γ53 : Orc := orc [(N86, s86), (N92, s92)]
theorem r53 (b : Block.D) (i : Int) : run Γ53 noL [] F53 (encA [.v Block, .v I] (b, i)) [] =
    bif bif decide (i < 0) then true else decide (i > 4) then some (.tup [(true, enc Block true (0, 0)), (false, [.int .i64 1])]) else
    some (.tup [(true, enc Block true (partB b i)), (false, [.int .i64 0])]) := by kernel_rfl
def partR (b : Block.D) (i : Int) : Block.D × Int := bif bif decide (i < 0) then true else decide (i > 4) then ((0, 0), 1) else (partB b i, 0)
def s53 : Sp := .fn [.v Block, .v I] fun x => (true, .tup [(true, enc Block true (partR x.1 x.2).1), (false, [.int .i64 (partR x.1 x.2).2])])
theorem g53 : GoodS Try.prog N53 s53 := by
  refine good (.cons g86 (.cons g92 (.nil _))) H53 rfl (by kernel_rfl) noL [] (noLoops (by kernel_rfl)) [.v Block, .v I] (by decide) [] _ fun x r hw h => ?_
  cases h
  refine (r53 x.1 x.2).trans ?_
  unfold partR
  cases bif decide (x.2 < 0) then true else decide (x.2 > 4) <;> rfl

/-! ### what is sealed -/
def Γ85 : Orc := orc [(N53, s53)]
def out85 (b : Block.D) : AV := .tup [(true, enc Block true (partR b 3).1), (true, enc Block true (partR b 4).1)]
theorem r85 (b : Block.D) : run Γ85 noL [] F85 (encA [.v Block] b) [] = bif sameO (out85 b) [some (out85 b), some (out85 b)] then some (out85 b) else none := by kernel_rfl
def s85 : Sp := .fn [.v Block] fun x => (true, .tup [(true, enc Block true (partB x 3)), (true, enc Block true (partB x 4))])
theorem g85 : GoodS Try.prog N85 s85 := by
  refine good (.cons g53 (.nil _)) H85 rfl (by kernel_rfl) noL [] (noLoops (by kernel_rfl)) [.v Block] (by decide) [] _ fun x r hw h => ?_
  cases h
  refine (r85 x).trans ?_
  have h1 : Same.eq (out85 x) (out85 x) = true := same_self _
  rw [show sameO (out85 x) [some (out85 x), some (out85 x)] = true by simp [sameO, h1]]
  rfl
def tagB (k c : Block.D) : Block.D := mixB (xorB (partB k 4) c)
def Γ87 : Orc := orc [(N85, s85), (N86, s86), (N92, s92)]
theorem r87 (k c : Block.D) : run Γ87 noL [] F87 (encA [.v Block, .v Block] (k, c)) [] = some (encV Block (tagB k c)) := by kernel_rfl
def s87 : Sp := .fn [.v Block, .v Block] fun x => (true, encV Block (tagB x.1 x.2))
theorem g87 : GoodS Try.prog N87 s87 := by
  refine good (.cons g85 (.cons g86 (.cons g92 (.nil _)))) H87 rfl (by kernel_rfl) noL [] (noLoops (by kernel_rfl)) [.v Block, .v Block] (by decide) [] _ fun x r hw h => ?_
  cases h
  exact r87 x.1 x.2
def wrapB (k b : Block.D) : Sealed.D := (xorB b (partB k 3), tagB k (xorB b (partB k 3)))
def Γ46 : Orc := orc [(N85, s85), (N86, s86), (N87, s87)]
theorem r46 (k b : Block.D) : run Γ46 noL [] F46 (encA [.v Block, .v Block] (k, b)) [] = some (encV Sealed (wrapB k b)) := by kernel_rfl
def s46 : Sp := .fn [.v Block, .v Block] fun x => (true, encV Sealed (wrapB x.1 x.2))
theorem g46 : GoodS Try.prog N46 s46 := by
  refine good (.cons g85 (.cons g86 (.cons g87 (.nil _)))) H46 rfl (by kernel_rfl) noL [] (noLoops (by kernel_rfl)) [.v Block, .v Block] (by decide) [] _ fun x r hw h => ?_
  cases h
  exact r46 x.1 x.2
def Γ48 : Orc := orc [(N46, s46), (N85, s85), (N86, s86)]
def sealedEq (a b : Sealed.D) : Bool := (a.1.1 == b.1.1) && ((a.1.2 == b.1.2) && ((a.2.1 == b.2.1) && (a.2.2 == b.2.2)))
def openB (k : Block.D) (s : Sealed.D) : Block.D := xorB s.1 (partB k 3)
def unwrapR (k : Block.D) (s : Sealed.D) : Block.D × Int := bif !sealedEq (wrapB k (openB k s)) s then ((0, 0), 7) else (openB k s, 0)
theorem r48 (k : Block.D) (s : Sealed.D) : run Γ48 noL [] F48 (encA [.v Block, .v Sealed] (k, s)) [] =
    bif !sealedEq (wrapB k (openB k s)) s then some (.tup [(true, enc Block true (0, 0)), (false, [.int .i64 7])]) else some (.tup [(true, enc Block true (openB k s)), (false, [.int .i64 0])]) := by kernel_rfl
def s48 : Sp := .fn [.v Block, .v Sealed] fun x => (true, .tup [(true, enc Block true (unwrapR x.1 x.2).1), (false, [.int .i64 (unwrapR x.1 x.2).2])])
theorem g48 : GoodS Try.prog N48 s48 := by
  refine good (.cons g46 (.cons g85 (.cons g86 (.nil _)))) H48 rfl (by kernel_rfl) noL [] (noLoops (by kernel_rfl)) [.v Block, .v Sealed] (by decide) [] _ fun x r hw h => ?_
  cases h
  refine (r48 x.1 x.2).trans ?_
  unfold unwrapR
  cases sealedEq (wrapB x.1 (openB x.1 x.2)) x.2 <;> rfl
end Go.AM.Seat
