/- The seat: contracts: the definition's blocks. -/
import Derived.Test.YtnkdeglckmogcaaSe9
set_option linter.unusedVariables false
set_option maxRecDepth 100000
namespace Go.AM.Seat
open Go Go.AM Go.Proofs

theorem r93 (a b : Block.D) : run (orc []) noL [] F93 (encA [.v Block, .v Block] (a, b)) [] = some (encV Block (xorB a b)) := by kernel_rfl
def s93 : Sp := .fn [.v Block, .v Block] fun x => (true, encV Block (xorB x.1 x.2))
theorem g93 : GoodS Try.prog N93 s93 := by
  refine good (.nil _) H93 rfl (by kernel_rfl) noL [] (noLoops (by kernel_rfl)) [.v Block, .v Block] (by decide) [] _ fun x r hw h => ?_
  cases h
  exact r93 x.1 x.2

/-! ### turned, round, Mix -/
def turnU (n k : Int) : Int := IntKind.u64.wrap (BitVec.ofInt 64 (IntKind.u64.wrap (n * 2 ^ min k.toNat 64)) ||| BitVec.ofInt 64 (n.fdiv (2 ^ min (IntKind.i64.wrap (64 - k)).toNat 64))).toNat
theorem r122 (n k : Int) : run (orc []) noL [] F122 (encA [.v U, .v I] (n, k)) [] = bif decide (0 ≤ k) then (bif decide (0 ≤ IntKind.i64.wrap (64 - k)) then some (.one (.int .u64 (turnU n k))) else none) else none := by kernel_rfl
theorem turn_ok (n k : Int) (h0 : 0 ≤ k) (h1 : k ≤ 64) : (bif decide (0 ≤ k) then (bif decide (0 ≤ IntKind.i64.wrap (64 - k)) then some (AV.one (.int .u64 (turnU n k))) else none) else none) = some (.one (.int .u64 (turnU n k))) := by
  have e : decide (0 ≤ IntKind.i64.wrap (64 - k)) = true := by rw [wrap64 (by omega) (by omega)]; exact decide_eq_true (by omega)
  rw [decide_eq_true h0, e]
  rfl
def s122 : Sp := .fn [.v U, .v I] fun x => (decide (0 ≤ x.2) && decide (x.2 ≤ 64), .one (.int .u64 (turnU x.1 x.2)))
theorem g122 : GoodS Try.prog N122 s122 := by
  refine good (.nil _) H122 rfl (by kernel_rfl) noL [] (noLoops (by kernel_rfl)) [.v U, .v I] (by decide) [] _ fun x r hw h => ?_
  obtain ⟨n, k⟩ := x
  simp only [Prod.mk.injEq, Bool.and_eq_true, decide_eq_true_eq] at h
  obtain ⟨⟨h0, h1⟩, rfl⟩ := h
  exact (r122 n k).trans (turn_ok n k h0 h1)
theorem turn13 (n : Int) : turnU n 13 = rotU n 13 := by kernel_rfl
theorem turn29 (n : Int) : turnU n 29 = rotU n 29 := by kernel_rfl
def Γ107 : Orc := orc [(N122, s122)]
def roundR (b : Block.D) (k : Int) : Block.D :=
  let a := turnU (IntKind.u64.wrap (IntKind.u64.wrap (b.1 + b.2) + IntKind.u64.wrap (k * 11400714819323198485))) 13
  let c := turnU (xorU b.2 a) 29
  (xorU a c, c)
theorem roundR_eq (b : Block.D) (k : Int) : roundR b k = mixStep k b := by
  unfold roundR mixStep
  simp only [turn13, turn29]
theorem r107 (b : Block.D) (k : Int) : run Γ107 noL [] F107 (encA [.v Block, .v U] (b, k)) [] = some (encV Block (roundR b k)) := by kernel_rfl
def s107 : Sp := .fn [.v Block, .v U] fun x => (true, encV Block (mixStep x.2 x.1))
theorem g107 : GoodS Try.prog N107 s107 := by
  refine good (.cons g122 (.nil _)) H107 rfl (by kernel_rfl) noL [] (noLoops (by kernel_rfl)) [.v Block, .v U] (by decide) [] _ fun x r hw h => ?_
  cases h
  rw [← roundR_eq]
  exact r107 x.1 x.2

abbrev live94 : List (Nat × Dir) := [(1, .keep), (2, .keep), (4, .keep)]
def Γ94 : Orc := orc [(N107, s107)]
def vs94 (z x : Block.D) (k : Int) : List AV := [.own [.int .u64 x.1, .int .u64 x.2], .own [.int .u64 z.1, .int .u64 z.2], .one (.int .i64 k)]
def Λ94 : Lam AV := fun cur vs K =>
  match cur, vs with
  | 0, [.own [.int .u64 x, .int .u64 y], .own [.int .u64 e, .int .u64 f], .one (.int .i64 0)] => K (.exit 0) (vs94 (e, f) (mixB (x, y)) 8)
  | _, _ => none
theorem step94 (z x : Block.D) (k : Int) (K : AE → List AV → Option AV) (fuel : Nat) :
    loopN (aexec tb Γ94 Λ94 ⟨13, 0, [(0, live94)]⟩ (loop1 F94).2 0) 13 0 live94 K (fuel + 1) (vs94 z x k) =
    bif decide (k < 8) then loopN (aexec tb Γ94 Λ94 ⟨13, 0, [(0, live94)]⟩ (loop1 F94).2 0) 13 0 live94 K fuel (vs94 z (mixStep (IntKind.u64.wrap k) x) (IntKind.i64.wrap (k + 1)))
    else K (.exit 0) (vs94 z x k) := by kernel_rfl
theorem loop94 : LoopP tb Γ94 Λ94 ⟨13, 0, [(0, live94)]⟩ (loop1 F94) := by
  intro vs K out h
  have hcur : (loop1 F94).1 = 0 := by kernel_rfl
  rw [hcur] at h ⊢
  unfold Λ94 at h
  split at h
  · rename_i x y e f _
    refine upLoop (α := Block.D) (n := 8) (F := fun fuel x i => loopN (aexec tb Γ94 Λ94 ⟨13, 0, [(0, live94)]⟩ (loop1 F94).2 0) 13 0 live94 K fuel (vs94 (e, f) x i))
        (G := fun j x => K (.exit 0) (vs94 (e, f) (mixGo (8 - j) j x) 8)) (fun fuel x => ?_) (fun x j hj => ?_) 8 0 (x, y) out (by omega) h
    · simp only [step94]; rfl
    · left; refine ⟨mixStep j x, fun fuel => ?_, ?_⟩
      · have h8 : decide ((j : Int) < 8) = true := decide_eq_true (by omega)
        simp only [step94, h8, cond_true]
        rw [wrap64 (by omega) (by omega), wrapU (by omega) (by omega)]; rfl
      · rw [show 8 - j = (8 - (j + 1)) + 1 by omega]
        simp only [mixGo]; rfl
  · cases h
theorem r94 (x : Block.D) : run Γ94 Λ94 [(0, live94)] F94 (encA [.v Block] x) [] = some (encV Block (mixB x)) := by kernel_rfl
def s94 : Sp := .fn [.v Block] fun x => (true, encV Block (mixB x))
theorem g94 : GoodS Try.prog N94 s94 := by
  refine good (.cons g107 (.nil _)) H94 rfl (by kernel_rfl) Λ94 [(0, live94)] (oneLoop (p0 := loop1 F94) (by kernel_rfl) loop94) [.v Block] (by decide) [] _ fun x r hw h => ?_
  cases h
  exact r94 x

/-! ### Part -/
def partBR (b : Block.D) (i : Int) : Block.D := xorB (mixB (xorU b.1 (IntKind.u64.wrap (IntKind.i64.wrap (i + 1))), b.2)) b
def Γ55 : Orc := orc [(N93, s93), (N94, s94)]
theorem r55 (b : Block.D) (i : Int) : run Γ55 noL [] F55 (encA [.v Block, .v I] (b, i)) [] =
    bif bif decide (i < 0) then true else decide (i > 4) then some (.tup [(true, enc Block true (0, 0)), (false, [.int .i64 1])]) else
    some (.tup [(true, enc Block true (partBR b i)), (false, [.int .i64 0])]) := by kernel_rfl
theorem xorU_zero {a : Int} (h0 : 0 ≤ a) (h1 : a ≤ 18446744073709551615) : xorU a 0 = a := by
  unfold xorU
  have e : BitVec.ofInt 64 0 = 0#64 := rfl
  rw [e, BitVec.xor_zero]
  obtain ⟨n, rfl⟩ := Int.eq_ofNat_of_zero_le h0
  rw [BitVec.ofInt_natCast, BitVec.toNat_ofNat, Nat.mod_eq_of_lt (by omega)]
  exact wrapU (by omega) (by omega)
theorem has_u64 {n : Int} (h : IntKind.u64.has n) : 0 ≤ n ∧ n ≤ 18446744073709551615 := by
  obtain ⟨h1, h2⟩ := h
  exact ⟨by simpa [IntKind.min, IntKind.signed] using h1, by simpa [IntKind.max, IntKind.signed, IntKind.bits] using h2⟩
theorem partBR_eq {b : Block.D} (h : WF Block b) (i : Int) : partBR b i = partB b i := by
  unfold partBR partB
  have h2 := has_u64 h.2
  have e : xorB b (IntKind.u64.wrap (IntKind.i64.wrap (i + 1)), 0) = (xorU b.1 (IntKind.u64.wrap (IntKind.i64.wrap (i + 1))), b.2) := by
    unfold xorB
    rw [xorU_zero h2.1 h2.2]
  rw [e]
theorem g55 : GoodS Try.prog N55 s53 := by
  refine good (.cons g93 (.cons g94 (.nil _))) H55 rfl (by kernel_rfl) noL [] (noLoops (by kernel_rfl)) [.v Block, .v I] (by decide) [] _ fun x r hw h => ?_
  cases h
  refine (r55 x.1 x.2).trans ?_
  rw [partBR_eq hw.1]
  unfold partR
  cases bif decide (x.2 < 0) then true else decide (x.2 > 4) <;> rfl

/-! ### number, Octets -/
@[reducible] def By : Ty := .int .u8
def numF (x n : Int) : Int := IntKind.u64.wrap (IntKind.u64.wrap (256 * n) + IntKind.u64.wrap x)
def numL (xs : List Int) : Int := xs.foldr numF 0
abbrev live123 : List (Nat × Dir) := [(0, .keep), (3, .keep), (4, .keep)]
def vs123 (xs : List Int) (n i : Int) : List AV := [.one (.sl false By none xs), .one (.int .u64 n), .one (.int .i64 i)]
def Λ123 : Lam AV := fun cur vs K =>
  match cur, vs with
  | 0, [.one (.sl false (.int .u8) none xs), .one (.int .u64 0), .one (.int .i64 i)] =>
    bif decide (i = (xs.length : Int) - 1) && decide (i ≤ 9223372036854775806) then K (.exit 0) (vs123 xs (numL xs) (-1)) else none
  | _, _ => none
theorem step123 (xs : List Int) (n i : Int) (K : AE → List AV → Option AV) (fuel : Nat) :
    loopN (aexec tb (orc []) Λ123 ⟨21, 0, [(0, live123)]⟩ (loop1 F123).2 0) 21 0 live123 K (fuel + 1) (vs123 xs n i) =
    bif decide (i ≥ 0) then
      bif inB i xs.length then loopN (aexec tb (orc []) Λ123 ⟨21, 0, [(0, live123)]⟩ (loop1 F123).2 0) 21 0 live123 K fuel (vs123 xs (numF (xs.getD i.toNat 0) n) (IntKind.i64.wrap (i - 1)))
      else none
    else K (.exit 0) (vs123 xs n i) := by kernel_rfl
theorem loop123 : LoopP tb (orc []) Λ123 ⟨21, 0, [(0, live123)]⟩ (loop1 F123) := by
  intro vs K out h
  have hcur : (loop1 F123).1 = 0 := by kernel_rfl
  rw [hcur] at h ⊢
  unfold Λ123 at h
  split at h
  · rename_i xs i _
    cases hc : (decide (i = (xs.length : Int) - 1) && decide (i ≤ 9223372036854775806)) with
    | false => rw [hc] at h; cases h
    | true =>
      rw [hc] at h
      simp only [cond_true] at h
      simp only [Bool.and_eq_true, decide_eq_true_eq] at hc
      obtain ⟨rfl, hmax⟩ := hc
      have key : ∀ (j : Nat) (n : Int), j ≤ xs.length → K (.exit 0) (vs123 xs ((xs.take j).foldr numF n) (-1)) = some out →
          ∃ fuel, loopN (aexec tb (orc []) Λ123 ⟨21, 0, [(0, live123)]⟩ (loop1 F123).2 0) 21 0 live123 K fuel (vs123 xs n ((j : Int) - 1)) = some out := by
        intro j
        induction j with
        | zero =>
          intro n _ h
          refine ⟨1, ?_⟩
          rw [step123]
          exact h
        | succ j ih =>
          intro n hj h
          have hlt : j < xs.length := by omega
          have ht : xs.take (j + 1) = xs.take j ++ [xs.getD j 0] := by
            rw [List.take_add_one, List.getD_eq_getElem?_getD, List.getElem?_eq_getElem hlt]; rfl
          rw [ht, List.foldr_append] at h
          obtain ⟨fuel, hf⟩ := ih (numF (xs.getD j 0) n) (by omega) h
          refine ⟨fuel + 1, ?_⟩
          have e : ((j + 1 : Nat) : Int) - 1 = (j : Int) := by omega
          rw [step123, e, decide_eq_true (show (j : Int) ≥ 0 by omega), inB_lt hlt]
          simp only [cond_true, Int.toNat_natCast]
          rw [wrap64 (by omega) (by omega)]
          exact hf
      refine key xs.length 0 (Nat.le_refl _) ?_
      rw [List.take_length]
      exact h
  · cases h
theorem r123 (xs : List Int) : run (orc []) Λ123 [(0, live123)] F123 (encA [.v (.sl By)] xs) [] =
    bif decide (IntKind.i64.wrap ((xs.length : Int) - 1) = (xs.length : Int) - 1) && decide (IntKind.i64.wrap ((xs.length : Int) - 1) ≤ 9223372036854775806) then some (.one (.int .u64 (numL xs))) else none := by kernel_rfl
def s123 : Sp := .fn [.v (.sl By)] fun xs => (true, .one (.int .u64 (numL xs)))
theorem g123 : GoodS Try.prog N123 s123 := by
  refine good (.nil _) H123 rfl (by kernel_rfl) Λ123 [(0, live123)] (oneLoop (p0 := loop1 F123) (by kernel_rfl) loop123) [.v (.sl By)] (by decide) [] _ fun xs r hw h => ?_
  cases h
  refine (r123 xs).trans ?_
  have hl : xs.length ≤ 9223372036854775807 := hw.1
  rw [wrap64 (by omega) (by omega), decide_eq_true rfl, decide_eq_true (show (xs.length : Int) - 1 ≤ 9223372036854775806 by omega)]
  rfl

def octB (n : Int) : Int := IntKind.u8.wrap (n.tmod 256)
def octN (n : Int) : Int := IntKind.u64.wrap (n.tdiv 256)
def octL : Nat → Int → List Int
  | 0, _ => []
  | k + 1, n => octB n :: octL k (octN n)
def octR : Nat → Int → Int
  | 0, n => n
  | k + 1, n => octR k (octN n)
abbrev live109 : List (Nat × List (Nat × Dir)) := [(0, [(3, .arr By), (6, .keep), (7, .keep)]), (2, [(3, .arr By), (5, .keep), (6, .keep), (7, .keep), (10, .keep)])]
def Λ109 : Lam AV := fun cur vs K =>
  match cur, vs with
  | 0, [.arr true (.int .u8) [], .agg [.int .u64 x, .int .u64 y], .one (.int .i64 0)] => K (.exit 0) [.arr true By (octL 8 x ++ octL 8 y), .agg [.int .u64 x, .int .u64 y], .one (.int .i64 2)]
  | 2, [.arr true (.int .u8) [], .one (.int .u64 n), .agg [.int .u64 x, .int .u64 y], .one (.int .i64 i), .one (.int .i64 0)] =>
    K (.exit 2) [.arr true By (octL 8 n), .one (.int .u64 (octR 8 n)), .agg [.int .u64 x, .int .u64 y], .one (.int .i64 i), .one (.int .i64 8)]
  | 2, [.arr true (.int .u8) [a, b, c, d, e, f, g, h], .one (.int .u64 n), .agg [.int .u64 x, .int .u64 y], .one (.int .i64 i), .one (.int .i64 0)] =>
    K (.exit 2) [.arr true By ([a, b, c, d, e, f, g, h] ++ octL 8 n), .one (.int .u64 (octR 8 n)), .agg [.int .u64 x, .int .u64 y], .one (.int .i64 i), .one (.int .i64 8)]
  | _, _ => none
def loop2 (f : Func) : Nat × Code := ((loopsOf 0 (body f)).drop 1).headD (0, .skip)
theorem loop109a : LoopP tb (orc []) Λ109 ⟨23, 0, live109⟩ (loop1 F109) := by
  intro vs K out h
  have hcur : (loop1 F109).1 = 0 := by kernel_rfl
  rw [hcur] at h ⊢
  unfold Λ109 at h
  split at h
  · rename_i x y _
    refine ⟨3, Eq.trans ?_ h⟩
    kernel_rfl
  · rename_i e; cases e
  · rename_i e; cases e
  · cases h
theorem loop109b : LoopP tb (orc []) Λ109 ⟨23, 0, live109⟩ (loop2 F109) := by
  intro vs K out h
  have hcur : (loop2 F109).1 = 2 := by kernel_rfl
  rw [hcur] at h ⊢
  unfold Λ109 at h
  split at h
  · rename_i e; cases e
  · refine ⟨9, Eq.trans ?_ h⟩
    kernel_rfl
  · refine ⟨9, Eq.trans ?_ h⟩
    kernel_rfl
  · cases h
def octsB (b : Block.D) : List Int := octL 8 b.1 ++ octL 8 b.2
theorem r109 (b : Block.D) : run (orc []) Λ109 live109 F109 (encA [.v Block] b) [.arr By] = some (.arr true By (octsB b)) := by kernel_rfl
def s109 : Sp := .fn [.v Block] fun b => (true, .arr true By (octsB b))
theorem g109 : GoodS Try.prog N109 s109 := by
  refine good (.nil _) H109 rfl (by kernel_rfl) Λ109 live109 (twoLoops (p0 := loop1 F109) (p1 := loop2 F109) (by kernel_rfl) loop109a loop109b) [.v Block] (by decide) [.arr By] _ fun b r hw h => ?_
  cases h
  exact r109 b
/-! ### Fold of sixteen octets -/
abbrev live108 : List (Nat × Dir) := [(1, .keep), (2, .keep), (4, .keep)]
def Γ108 : Orc := orc [(N93, s93), (N94, s94), (N123, s123)]
def foldB (b : Block.D) (xs : List Int) : Block.D := mixB (xorB b (numL (xs.take 8), numL (xs.drop 8)))
def Λ108 : Lam AV := fun cur vs K =>
  match cur, vs with
  | 0, [.one (.sl false (.int .u8) none [a, b, c, d, e, f, g, h, i, j, k, l, m, n, o, p]), .own [.int .u64 x, .int .u64 y], .own [.int .u64 u, .int .u64 v]] =>
    K (.exit 0) [.one (.sl false By none []), .own [.int .u64 (foldB (x, y) [a, b, c, d, e, f, g, h, i, j, k, l, m, n, o, p]).1, .int .u64 (foldB (x, y) [a, b, c, d, e, f, g, h, i, j, k, l, m, n, o, p]).2], .own [.int .u64 u, .int .u64 v]]
  | _, _ => none
theorem loop108 : LoopP tb Γ108 Λ108 ⟨33, 0, [(0, live108)]⟩ (loop1 F108) := by
  intro vs K out h
  have hcur : (loop1 F108).1 = 0 := by kernel_rfl
  rw [hcur] at h ⊢
  unfold Λ108 at h
  split at h
  · refine ⟨2, Eq.trans ?_ h⟩
    kernel_rfl
  · cases h
theorem r108 (z : Block.D) (a b c d e f g h i j k l m n o p : Int) : run Γ108 Λ108 [(0, live108)] F108 (encA [.v Block, .v (.sl By)] (z, [a, b, c, d, e, f, g, h, i, j, k, l, m, n, o, p])) [] =
    some (.tup [(true, enc Block true (foldB z [a, b, c, d, e, f, g, h, i, j, k, l, m, n, o, p])), (false, [.int .i64 0])]) := by kernel_rfl
def s108 : Sp := .fn [.v Block, .v (.sl By)] fun x => match x.2 with
  | [a, b, c, d, e, f, g, h, i, j, k, l, m, n, o, p] => (true, .tup [(true, enc Block true (foldB x.1 [a, b, c, d, e, f, g, h, i, j, k, l, m, n, o, p])), (false, [.int .i64 0])])
  | _ => (false, AV.junk)
theorem g108 : GoodS Try.prog N108 s108 := by
  refine good (.cons g93 (.cons g94 (.cons g123 (.nil _)))) H108 rfl (by kernel_rfl) Λ108 [(0, live108)] (oneLoop (p0 := loop1 F108) (by kernel_rfl) loop108) [.v Block, .v (.sl By)] (by decide) [] _ fun x r hw hh => ?_
  obtain ⟨z, xs⟩ := x
  simp only at hh
  split at hh
  · cases hh
    exact r108 ..
  · cases hh
theorem wrapU8 {n : Int} (h : 0 ≤ n) (h' : n ≤ 255) : IntKind.u8.wrap n = n := by
  unfold IntKind.wrap; simp [IntKind.signed, IntKind.bits]; omega
theorem numL_octL : ∀ (k : Nat) (n : Int), k ≤ 8 → 0 ≤ n → n < 256 ^ k → numL (octL k n) = n := by
  intro k
  induction k with
  | zero => intro n _ h0 h1; simp [numL, octL] at h1 ⊢; omega
  | succ k ih =>
    intro n hk h0 h1
    have hp : (256 : Int) ^ (k + 1) = 256 ^ k * 256 := Int.pow_succ ..
    have hle : (256 : Int) ^ k ≤ 256 ^ 7 := by
      have := Nat.pow_le_pow_right (show 0 < 256 by omega) (show k ≤ 7 by omega)
      exact_mod_cast this
    have h7 : (256 : Int) ^ 7 = 72057594037927936 := by decide
    rw [hp] at h1
    rw [h7] at hle
    obtain ⟨q, hq⟩ : ∃ q : Int, q = 256 ^ k := ⟨_, rfl⟩
    rw [← hq] at h1 hle
    have hd : n.tdiv 256 = n / 256 := Int.tdiv_eq_ediv_of_nonneg h0
    have hm : n.tmod 256 = n % 256 := Int.tmod_eq_emod_of_nonneg h0
    have eN : octN n = n / 256 := by
      unfold octN; rw [hd]; exact wrapU (by omega) (by omega)
    have eB : octB n = n % 256 := by
      unfold octB; rw [hm]; exact wrapU8 (by omega) (by omega)
    show numF (octB n) (numL (octL k (octN n))) = n
    rw [eN, ih (n / 256) (by omega) (by omega) (by rw [← hq]; omega), eB]
    unfold numF
    rw [wrapU (show 0 ≤ 256 * (n / 256) by omega) (by omega), wrapU (show 0 ≤ n % 256 by omega) (by omega), wrapU (by omega) (by omega)]
    omega
theorem fold_octs {z c : Block.D} (h : WF Block c) : foldB z (octsB c) = mixB (xorB z c) := by
  have h1 := has_u64 h.1
  have h2 := has_u64 h.2
  have e8 : (256 : Int) ^ 8 = 18446744073709551616 := by decide
  unfold foldB octsB
  have t : (octL 8 c.1 ++ octL 8 c.2).take 8 = octL 8 c.1 := rfl
  have d : (octL 8 c.1 ++ octL 8 c.2).drop 8 = octL 8 c.2 := rfl
  rw [t, d, numL_octL 8 c.1 (Nat.le_refl _) h1.1 (by rw [e8]; omega), numL_octL 8 c.2 (Nat.le_refl _) h2.1 (by rw [e8]; omega)]

/-! ### Tag, Wrap, Unwrap -/
def Γ95 : Orc := orc [(N55, s53), (N108, s108), (N109, s109)]
def o95 (k c : Block.D) : AV := encV Block (foldB (partB k 4) (octsB c))
theorem r95 (k c : Block.D) : run Γ95 noL [] F95 (encA [.v Block, .v Block] (k, c)) [] = allSame (List.replicate 69 (some (o95 k c))) := by kernel_rfl
def s95 : Sp := .fn [.v Block, .v Block] fun x => (true, encV Block (tagB x.1 x.2))
theorem g95 : GoodS Try.prog N95 s95 := by
  refine good (.cons g55 (.cons g108 (.cons g109 (.nil _)))) H95 rfl (by kernel_rfl) noL [] (noLoops (by kernel_rfl)) [.v Block, .v Block] (by decide) [] _ fun x r hw h => ?_
  cases h
  refine (r95 x.1 x.2).trans ((allSame_rep _ 68).trans ?_)
  unfold o95
  rw [fold_octs hw.2]; rfl
def Γ57 : Orc := orc [(N55, s53), (N93, s93), (N95, s95)]
theorem r57 (k b : Block.D) : run Γ57 noL [] F57 (encA [.v Block, .v Block] (k, b)) [] = some (encV Sealed (wrapB k b)) := by kernel_rfl
theorem g57 : GoodS Try.prog N57 s46 := by
  refine good (.cons g55 (.cons g93 (.cons g95 (.nil _)))) H57 rfl (by kernel_rfl) noL [] (noLoops (by kernel_rfl)) [.v Block, .v Block] (by decide) [] _ fun x r hw h => ?_
  cases h
  exact r57 x.1 x.2
def blockEq (a b : Block.D) : Bool := (a.1 == b.1) && (a.2 == b.2)
def unwrapRR (k : Block.D) (s : Sealed.D) : Block.D × Int := bif !blockEq s.2 (tagB k s.1) then ((0, 0), 7) else (openB k s, 0)
theorem r58 (k : Block.D) (s : Sealed.D) : run Γ57 noL [] F58 (encA [.v Block, .v Sealed] (k, s)) [] =
    bif !blockEq s.2 (tagB k s.1) then some (.tup [(true, enc Block true (0, 0)), (false, [.int .i64 7])]) else some (.tup [(true, enc Block true (openB k s)), (false, [.int .i64 0])]) := by kernel_rfl
--CUT
end Go.AM.Seat
