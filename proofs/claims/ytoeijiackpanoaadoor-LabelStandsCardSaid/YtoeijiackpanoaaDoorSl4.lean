/- The seat: contracts and plain laws, in order (cut out of all texts by a program). -/
import Derived.Test.YtoeijiackpanoaaDoorSl3
set_option linter.unusedVariables false
set_option linter.unusedSimpArgs false
set_option maxRecDepth 100000
namespace Go.AM.Seat
open Go Go.AM Go.Proofs

@[reducible] def K4 : List AK := [.v (.sl Term), .v Value, .v Value, .v I]
def kinds1 (a b : Value.D) (e f : Int) : Bool := bif !(a.1 == b.1) then bif e != 1 then true else f != 1 else false
def kinds2 (e g c h : Int) : Bool := bif bif g == 0 then c != 0 else false then true else bif e == 0 then h != 0 else false
def kinds3 (e f h : Int) : Bool := bif bif e != 0 then true else f == 1 then bif bif f != 0 then f != 7 else false then true else h == 1 else false

theorem isV_ne {l : List Term.D} {a b : Bool} {v w : Value.D} (h : ¬ isV l [a, b] [v, w] = 0) : isV l [a, b] [v, w] = 1 := (isV_two_one l a b v w).resolve_left h
theorem wrapV_ne {l : List Term.D} {a b : Value.D} (h : ¬ isV l [false, false] [a, b] = 0) : (wrapV l a b).2.2 = 1 := by
  unfold wrapV; rw [isV_ne h]; rfl
theorem unwrapV_ne {l : List Term.D} {a b : Value.D} (h : ¬ isV l [false, true] [a, b] = 0) : (unwrapV l a b).2 = 1 := by
  unfold unwrapV; rw [isV_ne h]; rfl
theorem partV_bad {l : List Term.D} {v : Value.D} {i : Int} (h : partBad l v i = true) : (partV l v i).2.2 = 1 := by unfold partV; rw [h]; rfl

theorem r93 (a b : Block.D) : run (orc []) noL [] F93 (encA [.v Block, .v Block] (a, b)) [] = some (encV Block (xorB a b)) := by kernel_rfl
def s93 : Sp := .fn [.v Block, .v Block] fun x => (true, encV Block (xorB x.1 x.2))
theorem g93 : GoodS Tryd.prog N93 s93 := by
  refine good (.nil _) H93 rfl (by kernel_rfl) noL [] (noLoops (by kernel_rfl)) [.v Block, .v Block] (by decide) [] _ fun x r hw h => ?_
  cases h
  exact r93 x.1 x.2
def turnU (n k : Int) : Int := IntKind.u64.wrap (BitVec.ofInt 64 (IntKind.u64.wrap (n * 2 ^ min k.toNat 64)) ||| BitVec.ofInt 64 (n.fdiv (2 ^ min (IntKind.i64.wrap (64 - k)).toNat 64))).toNat
theorem r122 (n k : Int) : run (orc []) noL [] F122 (encA [.v U, .v I] (n, k)) [] = bif decide (0 ≤ k) then (bif decide (0 ≤ IntKind.i64.wrap (64 - k)) then some (.one (.int .u64 (turnU n k))) else none) else none := by kernel_rfl
theorem turn_ok (n k : Int) (h0 : 0 ≤ k) (h1 : k ≤ 64) : (bif decide (0 ≤ k) then (bif decide (0 ≤ IntKind.i64.wrap (64 - k)) then some (AV.one (.int .u64 (turnU n k))) else none) else none) = some (.one (.int .u64 (turnU n k))) := by
  have e : decide (0 ≤ IntKind.i64.wrap (64 - k)) = true := by rw [wrap64 (by omega) (by omega)]; exact decide_eq_true (by omega)
  rw [decide_eq_true h0, e]
  rfl
def s122 : Sp := .fn [.v U, .v I] fun x => (decide (0 ≤ x.2) && decide (x.2 ≤ 64), .one (.int .u64 (turnU x.1 x.2)))
theorem g122 : GoodS Tryd.prog N122 s122 := by
  refine good (.nil _) H122 rfl (by kernel_rfl) noL [] (noLoops (by kernel_rfl)) [.v U, .v I] (by decide) [] _ fun x r hw h => ?_
  obtain ⟨n, k⟩ := x
  simp only [Prod.mk.injEq, Bool.and_eq_true, decide_eq_true_eq] at h
  obtain ⟨⟨h0, h1⟩, rfl⟩ := h
  exact (r122 n k).trans (turn_ok n k h0 h1)
theorem turn13 (n : Int) : turnU n 13 = rotU n 13 := by kernel_rfl
theorem turn29 (n : Int) : turnU n 29 = rotU n 29 := by kernel_rfl
def Γ107 : Orc := orc [(N122, s122)]
def roundR (b : Block.D) (k : Int) : Block.D :=
  let a := turnU (IntKind.u64.wrap (IntKind.u64.wrap (b.1 + b.2) + IntKind.u64.wrap (k * 11400714819323198485))) 13
  let c := turnU (xorU b.2 a) 29
  (xorU a c, c)
theorem roundR_eq (b : Block.D) (k : Int) : roundR b k = mixStep k b := by
  unfold roundR mixStep
  simp only [turn13, turn29]
theorem r107 (b : Block.D) (k : Int) : run Γ107 noL [] F107 (encA [.v Block, .v U] (b, k)) [] = some (encV Block (roundR b k)) := by kernel_rfl
def s107 : Sp := .fn [.v Block, .v U] fun x => (true, encV Block (mixStep x.2 x.1))
theorem g107 : GoodS Tryd.prog N107 s107 := by
  refine good (.cons g122 (.nil _)) H107 rfl (by kernel_rfl) noL [] (noLoops (by kernel_rfl)) [.v Block, .v U] (by decide) [] _ fun x r hw h => ?_
  cases h
  rw [← roundR_eq]
  exact r107 x.1 x.2
abbrev live94 : List (Nat × Dir) := [(1, .keep), (2, .keep), (4, .keep)]
def Γ94 : Orc := orc [(N107, s107)]
def vs94 (z x : Block.D) (k : Int) : List AV := [.own [.int .u64 x.1, .int .u64 x.2], .own [.int .u64 z.1, .int .u64 z.2], .one (.int .i64 k)]
def Λ94 : Lam AV := fun cur vs K =>
  match cur, vs with
  | 0, [.own [.int .u64 x, .int .u64 y], .own [.int .u64 e, .int .u64 f], .one (.int .i64 0)] => K (.exit 0) (vs94 (e, f) (mixB (x, y)) 8)
  | _, _ => none
theorem step94 (z x : Block.D) (k : Int) (K : AE → List AV → Option AV) (fuel : Nat) :
    loopN (aexec tb Γ94 Λ94 ⟨13, 0, [(0, live94)]⟩ (loop1 F94).2 0) 13 0 live94 K (fuel + 1) (vs94 z x k) =
    bif decide (k < 8) then loopN (aexec tb Γ94 Λ94 ⟨13, 0, [(0, live94)]⟩ (loop1 F94).2 0) 13 0 live94 K fuel (vs94 z (mixStep (IntKind.u64.wrap k) x) (IntKind.i64.wrap (k + 1)))
    else K (.exit 0) (vs94 z x k) := by kernel_rfl
theorem loop94 : LoopP tb Γ94 Λ94 ⟨13, 0, [(0, live94)]⟩ (loop1 F94) := by
  intro vs K out h
  have hcur : (loop1 F94).1 = 0 := by kernel_rfl
  rw [hcur] at h ⊢
  unfold Λ94 at h
  split at h
  · rename_i x y e f _
    refine upLoop (α := Block.D) (n := 8) (F := fun fuel x i => loopN (aexec tb Γ94 Λ94 ⟨13, 0, [(0, live94)]⟩ (loop1 F94).2 0) 13 0 live94 K fuel (vs94 (e, f) x i))
        (G := fun j x => K (.exit 0) (vs94 (e, f) (mixGo (8 - j) j x) 8)) (fun fuel x => ?_) (fun x j hj => ?_) 8 0 (x, y) out (by omega) h
    · simp only [step94]; rfl
    · left; refine ⟨mixStep j x, fun fuel => ?_, ?_⟩
      · have h8 : decide ((j : Int) < 8) = true := decide_eq_true (by omega)
        simp only [step94, h8, cond_true]
        rw [wrap64 (by omega) (by omega), wrapU (by omega) (by omega)]; rfl
      · rw [show 8 - j = (8 - (j + 1)) + 1 by omega]
        simp only [mixGo]; rfl
  · cases h
theorem r94 (x : Block.D) : run Γ94 Λ94 [(0, live94)] F94 (encA [.v Block] x) [] = some (encV Block (mixB x)) := by kernel_rfl
def s94 : Sp := .fn [.v Block] fun x => (true, encV Block (mixB x))
theorem g94 : GoodS Tryd.prog N94 s94 := by
  refine good (.cons g107 (.nil _)) H94 rfl (by kernel_rfl) Λ94 [(0, live94)] (oneLoop (p0 := loop1 F94) (by kernel_rfl) loop94) [.v Block] (by decide) [] _ fun x r hw h => ?_
  cases h
  exact r94 x
def partBR (b : Block.D) (i : Int) : Block.D := xorB (mixB (xorU b.1 (IntKind.u64.wrap (IntKind.i64.wrap (i + 1))), b.2)) b
def Γ55 : Orc := orc [(N93, s93), (N94, s94)]
theorem r55 (b : Block.D) (i : Int) : run Γ55 noL [] F55 (encA [.v Block, .v I] (b, i)) [] =
    bif bif decide (i < 0) then true else decide (i > 4) then some (.tup [(true, enc Block true (0, 0)), (false, [.int .i64 1])]) else
    some (.tup [(true, enc Block true (partBR b i)), (false, [.int .i64 0])]) := by kernel_rfl
theorem xorU_zero {a : Int} (h0 : 0 ≤ a) (h1 : a ≤ 18446744073709551615) : xorU a 0 = a := by
  unfold xorU
  have e : BitVec.ofInt 64 0 = 0#64 := rfl
  rw [e, BitVec.xor_zero]
  obtain ⟨n, rfl⟩ := Int.eq_ofNat_of_zero_le h0
  rw [BitVec.ofInt_natCast, BitVec.toNat_ofNat, Nat.mod_eq_of_lt (by omega)]
  exact wrapU (by omega) (by omega)
theorem has_u64 {n : Int} (h : IntKind.u64.has n) : 0 ≤ n ∧ n ≤ 18446744073709551615 := by
  obtain ⟨h1, h2⟩ := h
  exact ⟨by simpa [IntKind.min, IntKind.signed] using h1, by simpa [IntKind.max, IntKind.signed, IntKind.bits] using h2⟩
theorem partBR_eq {b : Block.D} (h : WF Block b) (i : Int) : partBR b i = partB b i := by
  unfold partBR partB
  have h2 := has_u64 h.2
  have e : xorB b (IntKind.u64.wrap (IntKind.i64.wrap (i + 1)), 0) = (xorU b.1 (IntKind.u64.wrap (IntKind.i64.wrap (i + 1))), b.2) := by
    unfold xorB
    rw [xorU_zero h2.1 h2.2]
  rw [e]
theorem g55 : GoodS Tryd.prog N55 s53 := by
  refine good (.cons g93 (.cons g94 (.nil _))) H55 rfl (by kernel_rfl) noL [] (noLoops (by kernel_rfl)) [.v Block, .v I] (by decide) [] _ fun x r hw h => ?_
  cases h
  refine (r55 x.1 x.2).trans ?_
  rw [partBR_eq hw.1]
  unfold partR
  cases bif decide (x.2 < 0) then true else decide (x.2 > 4) <;> rfl
@[reducible] def By : Ty := .int .u8
def numF (x n : Int) : Int := IntKind.u64.wrap (IntKind.u64.wrap (256 * n) + IntKind.u64.wrap x)
def numL (xs : List Int) : Int := xs.foldr numF 0
abbrev live123 : List (Nat × Dir) := [(0, .keep), (3, .keep), (4, .keep)]
def vs123 (xs : List Int) (n i : Int) : List AV := [.one (.sl false By none xs), .one (.int .u64 n), .one (.int .i64 i)]
def Λ123 : Lam AV := fun cur vs K =>
  match cur, vs with
  | 0, [.one (.sl false (.int .u8) none xs), .one (.int .u64 0), .one (.int .i64 i)] =>
    bif decide (i = (xs.length : Int) - 1) && decide (i ≤ 9223372036854775806) then K (.exit 0) (vs123 xs (numL xs) (-1)) else none
  | _, _ => none
def s123 : Sp := .fn [.v (.sl By)] fun xs => (true, .one (.int .u64 (numL xs)))
def octB (n : Int) : Int := IntKind.u8.wrap (n.tmod 256)
def octN (n : Int) : Int := IntKind.u64.wrap (n.tdiv 256)
def octL : Nat → Int → List Int
  | 0, _ => []
  | k + 1, n => octB n :: octL k (octN n)
def octR : Nat → Int → Int
  | 0, n => n
  | k + 1, n => octR k (octN n)
abbrev live109 : List (Nat × List (Nat × Dir)) := [(0, [(3, .arr By), (6, .keep), (7, .keep)]), (2, [(3, .arr By), (5, .keep), (6, .keep), (7, .keep), (10, .keep)])]
def Λ109 : Lam AV := fun cur vs K =>
  match cur, vs with
  | 0, [.arr true (.int .u8) [], .agg [.int .u64 x, .int .u64 y], .one (.int .i64 0)] => K (.exit 0) [.arr true By (octL 8 x ++ octL 8 y), .agg [.int .u64 x, .int .u64 y], .one (.int .i64 2)]
  | 2, [.arr true (.int .u8) [], .one (.int .u64 n), .agg [.int .u64 x, .int .u64 y], .one (.int .i64 i), .one (.int .i64 0)] =>
    K (.exit 2) [.arr true By (octL 8 n), .one (.int .u64 (octR 8 n)), .agg [.int .u64 x, .int .u64 y], .one (.int .i64 i), .one (.int .i64 8)]
  | 2, [.arr true (.int .u8) [a, b, c, d, e, f, g, h], .one (.int .u64 n), .agg [.int .u64 x, .int .u64 y], .one (.int .i64 i), .one (.int .i64 0)] =>
    K (.exit 2) [.arr true By ([a, b, c, d, e, f, g, h] ++ octL 8 n), .one (.int .u64 (octR 8 n)), .agg [.int .u64 x, .int .u64 y], .one (.int .i64 i), .one (.int .i64 8)]
  | _, _ => none
def loop2 (f : Func) : Nat × Code := ((loopsOf 0 (body f)).drop 1).headD (0, .skip)
def octsB (b : Block.D) : List Int := octL 8 b.1 ++ octL 8 b.2
def s109 : Sp := .fn [.v Block] fun b => (true, .arr true By (octsB b))
abbrev live108 : List (Nat × Dir) := [(1, .keep), (2, .keep), (4, .keep)]
def foldB (b : Block.D) (xs : List Int) : Block.D := mixB (xorB b (numL (xs.take 8), numL (xs.drop 8)))
def Λ108 : Lam AV := fun cur vs K =>
  match cur, vs with
  | 0, [.one (.sl false (.int .u8) none [a, b, c, d, e, f, g, h, i, j, k, l, m, n, o, p]), .own [.int .u64 x, .int .u64 y], .own [.int .u64 u, .int .u64 v]] =>
    K (.exit 0) [.one (.sl false By none []), .own [.int .u64 (foldB (x, y) [a, b, c, d, e, f, g, h, i, j, k, l, m, n, o, p]).1, .int .u64 (foldB (x, y) [a, b, c, d, e, f, g, h, i, j, k, l, m, n, o, p]).2], .own [.int .u64 u, .int .u64 v]]
  | _, _ => none
def s108 : Sp := .fn [.v Block, .v (.sl By)] fun x => match x.2 with
  | [a, b, c, d, e, f, g, h, i, j, k, l, m, n, o, p] => (true, .tup [(true, enc Block true (foldB x.1 [a, b, c, d, e, f, g, h, i, j, k, l, m, n, o, p])), (false, [.int .i64 0])])
  | _ => (false, AV.junk)
theorem wrapU8 {n : Int} (h : 0 ≤ n) (h' : n ≤ 255) : IntKind.u8.wrap n = n := by
  unfold IntKind.wrap; simp [IntKind.signed, IntKind.bits]; omega
theorem numL_octL : ∀ (k : Nat) (n : Int), k ≤ 8 → 0 ≤ n → n < 256 ^ k → numL (octL k n) = n := by
  intro k
  induction k with
  | zero => intro n _ h0 h1; simp [numL, octL] at h1 ⊢; omega
  | succ k ih =>
    intro n hk h0 h1
    have hp : (256 : Int) ^ (k + 1) = 256 ^ k * 256 := Int.pow_succ ..
    have hle : (256 : Int) ^ k ≤ 256 ^ 7 := by
      have := Nat.pow_le_pow_right (show 0 < 256 by omega) (show k ≤ 7 by omega)
      exact_mod_cast this
    have h7 : (256 : Int) ^ 7 = 72057594037927936 := by decide
    rw [hp] at h1
    rw [h7] at hle
    obtain ⟨q, hq⟩ : ∃ q : Int, q = 256 ^ k := ⟨_, rfl⟩
    rw [← hq] at h1 hle
    have hd : n.tdiv 256 = n / 256 := Int.tdiv_eq_ediv_of_nonneg h0
    have hm : n.tmod 256 = n % 256 := Int.tmod_eq_emod_of_nonneg h0
    have eN : octN n = n / 256 := by
      unfold octN; rw [hd]; exact wrapU (by omega) (by omega)
    have eB : octB n = n % 256 := by
      unfold octB; rw [hm]; exact wrapU8 (by omega) (by omega)
    show numF (octB n) (numL (octL k (octN n))) = n
    rw [eN, ih (n / 256) (by omega) (by omega) (by rw [← hq]; omega), eB]
    unfold numF
    rw [wrapU (show 0 ≤ 256 * (n / 256) by omega) (by omega), wrapU (show 0 ≤ n % 256 by omega) (by omega), wrapU (by omega) (by omega)]
    omega
theorem fold_octs {z c : Block.D} (h : WF Block c) : foldB z (octsB c) = mixB (xorB z c) := by
  have h1 := has_u64 h.1
  have h2 := has_u64 h.2
  have e8 : (256 : Int) ^ 8 = 18446744073709551616 := by decide
  unfold foldB octsB
  have t : (octL 8 c.1 ++ octL 8 c.2).take 8 = octL 8 c.1 := rfl
  have d : (octL 8 c.1 ++ octL 8 c.2).drop 8 = octL 8 c.2 := rfl
  rw [t, d, numL_octL 8 c.1 (Nat.le_refl _) h1.1 (by rw [e8]; omega), numL_octL 8 c.2 (Nat.le_refl _) h2.1 (by rw [e8]; omega)]
def o95 (k c : Block.D) : AV := encV Block (foldB (partB k 4) (octsB c))
def s95 : Sp := .fn [.v Block, .v Block] fun x => (true, encV Block (tagB x.1 x.2))
def blockEq (a b : Block.D) : Bool := (a.1 == b.1) && (a.2 == b.2)
def unwrapRR (k : Block.D) (s : Sealed.D) : Block.D × Int := bif !blockEq s.2 (tagB k s.1) then ((0, 0), 7) else (openB k s, 0)
@[reducible] def V1 : List AK := [.v (.sl Term), .v Value]
def mayV (l : List Term.D) (v : Value.D) : Bool := bif v.1 then (bif bif valEq v (symV v.2.2.2.2) then decide (v.2.2.2.2 ≥ 0) else false then decide (v.2.2.2.2 < (l.length : Int)) else false) else
  bif v.2.1 then valEq v (sealV v.2.2.2.1) else valEq v (octV v.2.2.1)
theorem r59 (l : List Term.D) (v : Value.D) : run (orc []) noL [] F59 (encA V1 (l, v)) [] =
    bif v.1 then ob (bif bif valEq v (symV v.2.2.2.2) then decide (v.2.2.2.2 ≥ 0) else false then decide (v.2.2.2.2 < (l.length : Int)) else false) else
    bif v.2.1 then ob (valEq v (sealV v.2.2.2.1)) else ob (valEq v (octV v.2.2.1)) := by kernel_rfl
def s59 : Sp := .fn V1 fun x => (true, .one (.bool (mayV x.1 x.2)))
theorem g59 : GoodS Tryd.prog N59 s59 := by
  refine good (.nil _) H59 rfl (by kernel_rfl) noL [] (noLoops (by kernel_rfl)) V1 (by decide) [] _ fun x r _ h => ?_
  obtain ⟨l, v⟩ := x
  cases h
  refine (r59 l v).trans ?_
  show _ = ob (mayV l v)
  unfold mayV
  cases v.1 <;> cases v.2.1 <;> rfl
def Γ27 : Orc := orc [(N51, s51), (N59, s59)]
def checkVR (l : List Term.D) (v : Value.D) : Int := bif bif checkR l != 0 then true else !mayV l v then 1 else 0
theorem r27 (l : List Term.D) (v : Value.D) : run Γ27 noL [] F27 (encA V1 (l, v)) [] = bif bif checkR l != 0 then true else !mayV l v then some (.one (.int .i64 1)) else some (.one (.int .i64 0)) := by kernel_rfl
def s27 : Sp := .fn V1 fun x => (true, .one (.int .i64 (checkVR x.1 x.2)))
theorem g27 : GoodS Tryd.prog N27 s27 := by
  refine good (.cons g51 (.cons g59 (.nil _))) H27 rfl (by kernel_rfl) noL [] (noLoops (by kernel_rfl)) V1 (by decide) [] _ fun x r _ h => ?_
  obtain ⟨l, v⟩ := x
  cases h
  refine (r27 l v).trans ?_
  simp only [checkVR]
  cases bif checkR l != 0 then true else !mayV l v <;> rfl
def shutG (l : List Term.D) (v : Value.D) : Bool := bif v.1 then inB v.2.2.2.2 l.length else true
theorem r54 (l : List Term.D) (v : Value.D) : run (orc []) noL [] F54 (encA V1 (l, v)) [] =
    bif v.1 then (bif inB v.2.2.2.2 l.length then ob ((tAt l v.2.2.2.2).1 == 5) else none) else ob v.2.1 := by kernel_rfl
def s54 : Sp := .fn V1 fun x => (shutG x.1 x.2, .one (.bool (ownV x.1 x.2)))
theorem g54 : GoodS Tryd.prog N54 s54 := by
  refine good (.nil _) H54 rfl (by kernel_rfl) noL [] (noLoops (by kernel_rfl)) V1 (by decide) [] _ fun x r _ h => ?_
  obtain ⟨l, v⟩ := x
  simp only [Prod.mk.injEq] at h
  obtain ⟨h1, rfl⟩ := h
  refine (r54 l v).trans ?_
  show _ = ob (ownV l v)
  unfold shutG at h1
  unfold ownV
  cases hv : v.1 with
  | true => rw [hv] at h1; simp only [cond_true] at h1; rw [h1]; rfl
  | false => rfl
def Γ56 : Orc := orc [(N27, s27), (N59, s59)]
def twoR (l : List Term.D) (a b : Value.D) : Bool := bif bif checkVR l a == 0 then mayV l b else false then a.1 == b.1 else false
def s56 : Sp := .fn V3 fun x => (true, .one (.bool (twoR x.1 x.2.1 x.2.2)))
theorem r52 (l : List Term.D) : run (orc []) noL [] F52 (encA [.v (.sl Term)] l) [.arr Term] = bif small24 l.length then some (.arr true Term l) else none := by kernel_rfl
def s52 : Sp := .fn [.v (.sl Term)] fun l => (small24 l.length, .arr true Term l)
theorem g52 : GoodS Tryd.prog N52 s52 := by
  refine good (.nil _) H52 rfl (by kernel_rfl) noL [] (noLoops (by kernel_rfl)) [.v (.sl Term)] (by decide) [.arr Term] _ fun l r _ h => ?_
  simp only [Prod.mk.injEq] at h
  obtain ⟨h1, rfl⟩ := h
  refine (r52 l).trans ?_
  rw [h1]; rfl
def Γ50 : Orc := orc [(N89, s89)]
def madeR (l : List Term.D) (t : Term.D) : Value.D × List Term.D × Int := bif (makeR l t).2.2 != 0 then (zeroV, [], (makeR l t).2.2) else (symV (makeR l t).1, (makeR l t).2.1, 0)
theorem r50 (l : List Term.D) (t : Term.D) : run Γ50 noL [] F50 (encA [.v (.sl Term), .v Term] (l, t)) wVle =
    bif (makeR l t).2.2 != 0 then some (vle (zeroV, [], (makeR l t).2.2)) else some (vle (symV (makeR l t).1, (makeR l t).2.1, 0)) := by kernel_rfl
def s50 : Sp := .fn [.v (.sl Term), .v Term] fun x => (true, vle (madeR x.1 x.2))
theorem g50 : GoodS Tryd.prog N50 s50 := by
  refine good (.cons g89 (.nil _)) H50 rfl (by kernel_rfl) noL [] (noLoops (by kernel_rfl)) [.v (.sl Term), .v Term] (by decide) wVle _ fun x r hw h => ?_
  cases h
  refine (r50 x.1 x.2).trans ?_
  simp only [madeR]
  cases (makeR x.1 x.2).2.2 != 0 <;> rfl
def Γ21 : Orc := orc [(N50, s50), (N51, s51), (N52, s52)]
def Γ23 : Orc := orc [(N27, s27), (N50, s50), (N52, s52), (N54, s54), (N55, s53)]
theorem checkVR_zero {l : List Term.D} {v : Value.D} : checkVR l v = 0 ↔ checkR l = 0 ∧ mayV l v = true := by
  unfold checkVR
  cases h1 : checkR l != 0 with
  | true => have : checkR l ≠ 0 := by simpa using h1
            simp [this]
  | false => have : checkR l = 0 := by simpa using h1
             cases h2 : mayV l v <;> simp [this]
theorem shut_ok {l : List Term.D} {v : Value.D} (h : mayV l v = true) : shutG l v = true := by
  unfold mayV at h
  unfold shutG
  cases hv : v.1 with
  | false => rfl
  | true =>
    rw [hv] at h
    simp only [cond_true] at h ⊢
    cases h1 : valEq v (symV v.2.2.2.2) with
    | false => rw [h1] at h; cases h
    | true =>
      rw [h1] at h
      cases h2 : decide (v.2.2.2.2 ≥ 0) with
      | false => rw [h2] at h; cases h
      | true =>
        rw [h2] at h
        unfold inB
        simp only [cond_true] at h
        rw [h, Bool.and_true]
        exact h2
theorem guard_ok {g b : Bool} (h : b = false → g = true) : (g || !boolBeq b false) = true := by
  cases b with
  | true => cases g <;> rfl
  | false => rw [h rfl]; rfl
theorem twoR_iff {l : List Term.D} {a b : Value.D} : twoR l a b = true ↔ checkR l = 0 ∧ mayV l a = true ∧ mayV l b = true ∧ a.1 = b.1 := by
  unfold twoR
  cases h1 : checkVR l a == 0 with
  | false =>
    have : ¬ checkVR l a = 0 := by simpa using h1
    rw [checkVR_zero] at this
    simp only [cond_false]
    constructor
    · intro h; cases h
    · intro ⟨g1, g2, _⟩; exact absurd ⟨g1, g2⟩ this
  | true =>
    have : checkVR l a = 0 := by simpa using h1
    obtain ⟨g1, g2⟩ := checkVR_zero.1 this
    simp only [cond_true, g1, g2, true_and]
    cases mayV l b <;> simp
def atomR (l : List Term.D) (s : Bool) (n : Int) (b : Block.D) : Value.D × List Term.D × Int :=
  bif s then madeR l (1, n, 0) else bif checkR l != 0 then (zeroV, [], 1) else (octV b, l, 0)
def partRBad (l : List Term.D) (v : Value.D) (i : Int) : Bool := bif bif bif checkVR l v != 0 then true else ownV l v then true else decide (i < 0) then true else decide (i > 2)
def partVR (l : List Term.D) (v : Value.D) (i : Int) : Value.D × List Term.D × Int :=
  bif partRBad l v i then (zeroV, [], 1) else bif v.1 then madeR l (IntKind.i64.wrap (2 + i), v.2.2.2.2, 0) else (octV (partR v.2.2.1 i).1, l, 0)
theorem r23 (l : List Term.D) (v : Value.D) (i : Int) : run Γ23 noL [] F23 (encA P3 (l, v, i)) wVle =
    bif shutG l v || !boolBeq (checkVR l v != 0) false then
      bif partRBad l v i then some (vle (zeroV, [], 1)) else bif v.1 then some (vle (madeR l (IntKind.i64.wrap (2 + i), v.2.2.2.2, 0))) else bif small24 l.length then some (vle (octV (partR v.2.2.1 i).1, l, 0)) else none
    else none := by kernel_rfl
def s23 : Sp := .fn P3 fun x => (true, vle (partVR x.1 x.2.1 x.2.2))
theorem g23 : GoodS Tryd.prog N23 s23 := by
  refine good (.cons g27 (.cons g50 (.cons g52 (.cons g54 (.cons g55 (.nil _)))))) H23 rfl (by kernel_rfl) noL [] (noLoops (by kernel_rfl)) P3 (by decide) wVle _ fun x r hw h => ?_
  obtain ⟨l, v, i⟩ := x
  cases h
  refine (r23 l v i).trans ?_
  rw [guard_ok (fun h => shut_ok (checkVR_zero.1 (by simpa using h)).2), cond_true]
  simp only [partVR]
  cases h0 : partRBad l v i with
  | true => rfl
  | false =>
    cases v.1 with
    | true => rfl
    | false =>
      unfold partRBad at h0
      cases h1 : checkVR l v != 0 with
      | true => rw [h1] at h0; cases h0
      | false =>
        have hz : checkVR l v = 0 := by simpa using h1
        rw [small_of (checkR_len (checkVR_zero.1 hz).1)]; rfl
def wrapRBad (l : List Term.D) (k v : Value.D) : Bool := bif bif !twoR l k v then true else ownV l k then true else ownV l v
def wrapVR (l : List Term.D) (k v : Value.D) : Value.D × List Term.D × Int :=
  bif wrapRBad l k v then (zeroV, [], 1) else bif k.1 then madeR l (5, k.2.2.2.2, v.2.2.2.2) else (sealV (wrapB k.2.2.1 v.2.2.1), l, 0)
def s24 : Sp := .fn V3 fun x => (true, vle (wrapVR x.1 x.2.1 x.2.2))
theorem two_shut1 {l : List Term.D} {k v : Value.D} : (shutG l k || !boolBeq (!twoR l k v) false) = true :=
  guard_ok fun h => shut_ok (twoR_iff.1 (by simpa using h)).2.1
theorem two_shut2 {l : List Term.D} {k v : Value.D} : (shutG l v || !boolBeq (bif !twoR l k v then true else ownV l k) false) = true :=
  guard_ok fun h => by
    cases h2 : twoR l k v with
    | false => rw [h2] at h; cases h
    | true => exact shut_ok (twoR_iff.1 h2).2.2.1
def unwrapRBad (l : List Term.D) (k w : Value.D) : Bool := bif bif !twoR l k w then true else ownV l k then true else !ownV l w
def unwrapVR (l : List Term.D) (k w : Value.D) : Value.D × Int :=
  bif unwrapRBad l k w then (zeroV, 1) else
  bif k.1 then (bif (tAt l w.2.2.2.2).2.1 != k.2.2.2.2 then (zeroV, 7) else (symV (tAt l w.2.2.2.2).2.2, 0)) else
  bif (unwrapR k.2.2.1 w.2.2.2.1).2 != 0 then (zeroV, (unwrapR k.2.2.1 w.2.2.2.1).2) else (octV (unwrapR k.2.2.1 w.2.2.2.1).1, 0)
def s25 : Sp := .fn V3 fun x => (true, ve (unwrapVR x.1 x.2.1 x.2.2))

theorem madeR_eq (l : List Term.D) (t : Term.D) : madeR l t = madeV l t := by
  unfold madeR madeV; rw [makeR_eq]
theorem mayV_eq (l : List Term.D) (v : Value.D) : mayV l v = valEq v (plainV l v) := by
  apply bool_iff
  rw [valEq_iff]
  unfold plainV isSym mayV
  obtain ⟨s, z, b, x, i⟩ := v
  cases s with
  | true =>
    simp only [cond_true]
    cases h1 : decide (i ≥ 0) <;> cases h2 : decide (i < (l.length : Int)) <;> simp only [cond_true, cond_false] <;> rw [cond_iff] <;> simp only [cond_iff, valEq_iff]
    all_goals
      first
      | (cases z <;> simp [sealV, octV, symV])
      | simp [symV]
  | false =>
    simp only [cond_false]
    cases z <;> simp only [cond_true, cond_false, valEq_iff]
theorem checkVR_eq (l : List Term.D) (v : Value.D) : checkVR l v = checkV l v := by
  unfold checkVR checkV
  rw [checkR_eq, mayV_eq]
  rcases checkL_cases l with ⟨h1, _⟩ | ⟨h1, _⟩ <;> rw [h1] <;> cases valEq v (plainV l v) <;> rfl
theorem check_may {l : List Term.D} {v : Value.D} : checkV l v = 0 ↔ checkR l = 0 ∧ mayV l v = true := by
  rw [← checkVR_eq, checkVR_zero]
theorem atomR_eq (l : List Term.D) (s : Bool) (n : Int) (b : Block.D) : atomR l s n b = atomV l s n b := by
  unfold atomR atomV
  rw [madeR_eq, checkR_eq]
  rcases checkL_cases l with ⟨h1, _⟩ | ⟨h1, _⟩ <;> rw [h1]
  cases s <;> rfl
theorem partRBad_eq (l : List Term.D) (v : Value.D) (i : Int) : partRBad l v i = partBad l v i := by
  have h := isV_one (l := l) (a := false) (v := v)
  unfold partRBad partBad
  rw [checkVR_eq]
  by_cases h1 : isV l [false] [v] = 0
  · obtain ⟨g1, g2⟩ := h.1 h1
    rw [h1, g1, g2]; rfl
  · have e : (isV l [false] [v] != 0) = true := by simpa using h1
    rw [e]
    cases hc : checkV l v != 0 with
    | true => rfl
    | false =>
      cases ho : ownV l v with
      | true => rfl
      | false => exact absurd (h.2 ⟨by simpa using hc, ho⟩) h1
theorem partVR_eq (l : List Term.D) (v : Value.D) (i : Int) : partVR l v i = partV l v i := by
  unfold partVR partV
  rw [partRBad_eq, madeR_eq]
  cases h : partBad l v i with
  | true => rfl
  | false =>
    obtain ⟨_, _, h0, h2⟩ := partBad_false.1 h
    have : (partR v.2.2.1 i).2 = 0 := by
      unfold partR
      rw [decide_eq_false (Int.not_lt.2 h0), decide_eq_false (show ¬ i > 4 from Int.not_lt.2 (Int.le_trans h2 (by decide)))]; rfl
    rw [this]
theorem two_iff {l : List Term.D} {k v : Value.D} : twoR l k v = true ↔ checkV l k = 0 ∧ checkV l v = 0 ∧ v.1 = k.1 := by
  rw [twoR_iff, check_may, check_may]
  exact ⟨fun ⟨a, b, c, d⟩ => ⟨⟨a, b⟩, ⟨a, c⟩, d.symm⟩, fun ⟨⟨a, b⟩, ⟨_, c⟩, d⟩ => ⟨a, b, c, d.symm⟩⟩
theorem wrapVR_eq (l : List Term.D) (k v : Value.D) : wrapVR l k v = wrapV l k v := by
  have h := isV_two (l := l) (a := false) (b := false) (v := k) (w := v)
  unfold wrapVR wrapV
  rw [madeR_eq]
  have hb : wrapRBad l k v = (isV l [false, false] [k, v] != 0) := by
    unfold wrapRBad
    by_cases h1 : isV l [false, false] [k, v] = 0
    · obtain ⟨g1, g2, g3, g4, g5⟩ := h.1 h1
      rw [h1, two_iff.2 ⟨g1, g2, g5⟩, g3, g4]; rfl
    · have e : (isV l [false, false] [k, v] != 0) = true := by simpa using h1
      rw [e]
      cases ht : twoR l k v with
      | false => rfl
      | true =>
        obtain ⟨g1, g2, g5⟩ := two_iff.1 ht
        cases h3 : ownV l k with
        | true => rfl
        | false =>
          cases h4 : ownV l v with
          | true => rfl
          | false => exact absurd (h.2 ⟨g1, g2, h3, h4, g5⟩) h1
  rw [hb]
  rcases isV_two_one l false false k v with h1 | h1 <;> rw [h1]
  rfl
theorem unwrapR_err (k : Block.D) (s : Sealed.D) : ((unwrapR k s).2 = 7 ∧ (unwrapR k s).1 = (0, 0)) ∨ (unwrapR k s).2 = 0 := by
  unfold unwrapR
  cases sealedEq (wrapB k (openB k s)) s
  · exact .inl ⟨rfl, rfl⟩
  · exact .inr rfl
theorem unwrapVR_eq (l : List Term.D) (k w : Value.D) : unwrapVR l k w = unwrapV l k w := by
  have h := isV_two (l := l) (a := false) (b := true) (v := k) (w := w)
  unfold unwrapVR unwrapV
  have hb : unwrapRBad l k w = (isV l [false, true] [k, w] != 0) := by
    unfold unwrapRBad
    by_cases h1 : isV l [false, true] [k, w] = 0
    · obtain ⟨g1, g2, g3, g4, g5⟩ := h.1 h1
      rw [h1, two_iff.2 ⟨g1, g2, g5⟩, g3, g4]; rfl
    · have e : (isV l [false, true] [k, w] != 0) = true := by simpa using h1
      rw [e]
      cases ht : twoR l k w with
      | false => rfl
      | true =>
        obtain ⟨g1, g2, g5⟩ := two_iff.1 ht
        cases h3 : ownV l k with
        | true => rfl
        | false =>
          cases h4 : ownV l w with
          | false => rfl
          | true => exact absurd (h.2 ⟨g1, g2, h3, h4, g5⟩) h1
  rw [hb]
  rcases isV_two_one l false true k w with h1 | h1 <;> rw [h1]
  · cases hk : k.1 with
    | true => rfl
    | false =>
      rcases unwrapR_err k.2.2.1 w.2.2.2.1 with ⟨e1, e2⟩ | e1
      · simp only [e1, e2]; rfl
      · simp only [e1]; rfl
  · rfl
theorem blockEq_iff {a b : Block.D} : blockEq a b = true ↔ a = b := by
  obtain ⟨a1, a2⟩ := a
  obtain ⟨b1, b2⟩ := b
  simp [blockEq]
theorem unwrapRR_eq (k : Block.D) {s : Sealed.D} (h : WF Sealed s) : unwrapRR k s = unwrapR k s := by
  have e : blockEq s.2 (tagB k s.1) = sealedEq (wrapB k (openB k s)) s := by
    apply bool_iff
    rw [blockEq_iff, sealedEq_iff]
    unfold wrapB openB
    rw [xorB_back h.1]
    constructor
    · intro e; rw [← e]
    · intro e; rw [← e]
  unfold unwrapRR unwrapR
  rw [e]
abbrev wRow : List WK := [.id, .arr Term, .id]
def rowR (i : Int) (e : Int) : AV := .tup [(false, [.int .i64 i]), (false, [.hot 0 none]), (false, [.int .i64 e])]
abbrev lt (l : List Term.D) (t : Term.D) : List AV := encA [.v (.sl Term), .v Term] (l, t)
theorem r84io (l : List Term.D) (t : Term.D) : runIO Γ84 noL2 0 [] F84 (lt l t) [] 0 wRow =
    bif (findL l t).2 == 0 then (bif small24 l.length then some (rowR (findL l t).1 0, [.arr true Term l]) else none) else
    bif (findL l t).2 != 4 then some (rowR 0 (findL l t).2, [.arr true Term []]) else
    bif (l.length : Int) == 65536 then some (rowR 0 6, [.arr true Term []]) else
    bif small24 l.length then (bif decide ((l.length + [t].length) * 24 ≤ 140737488355328) then some (rowR l.length 0, [.arr true Term (l ++ [t])]) else none) else none := by kernel_rfl
def s84io : Sp := .io fun a p gs => match a, p, gs with
  | [.one (.sl false (.pair (.int .i64) (.pair (.int .i64) (.int .i64))) none l), .agg [.int .i64 x, .int .i64 y, .int .i64 z]], 0, [] =>
    some (true, rowR (makeL l (x, y, z)).1 (makeL l (x, y, z)).2.2, [.arr true Term (makeL l (x, y, z)).2.1])
  | _, _, _ => none
theorem make_run (l : List Term.D) (t : Term.D) : runIO Γ84 noL2 0 [] F84 (lt l t) [] 0 wRow = some (rowR (makeL l t).1 (makeL l t).2.2, [.arr true Term (makeL l t).2.1]) := by
  rw [r84io]
  simp only [makeL]
  cases h0 : (findL l t).2 == 0 with
  | true =>
    rw [small_of (ixL_len (findL_ok (.inl (eq_of_beq h0))))]; rfl
  | false =>
    cases h4 : (findL l t).2 != 4 with
    | true => rfl
    | false =>
      have hl := ixL_len (findL_ok (.inr (by simpa using h4)))
      cases (l.length : Int) == 65536 with
      | true => rfl
      | false =>
        have : decide ((l.length + [t].length) * 24 ≤ 140737488355328) = true := decide_eq_true (by simp; omega)
        rw [small_of hl, this]; rfl
theorem g84io : GoodS Tryd.prog N84 s84io := by
  refine GoodS.io (callable_of H84 (bd rfl) (by kernel_rfl)) fun a p gs r gs' hw1 hw2 h => ?_
  clear hw1 hw2
  split at h
  · rename_i l x y z
    cases h
    exact goodIO0 (.cons g47 (.cons g103 (.nil _))) H84 rfl noL2 0 [] (noLoops2 (by kernel_rfl)) (lt l (x, y, z)) rfl (by show 2 ≤ _; decide) wRow (make_run l (x, y, z))
  · cases h
def rowV (v : Value.D) (e : Int) : AV := .tup [(true, enc Value true v), (false, [.hot 0 none]), (false, [.int .i64 e])]
def Γ45io : Orc := orc [(N84, s84io)]
theorem r45io (l : List Term.D) (t : Term.D) : runIO Γ45io noL2 0 [] F45 (lt l t) [] 0 wRow =
    bif (makeL l t).2.2 != 0 then some (rowV zeroV (makeL l t).2.2, [.arr true Term []]) else some (rowV (symV (makeL l t).1) 0, [.arr true Term (makeL l t).2.1]) := by kernel_rfl
def s45io : Sp := .io fun a p gs => match a, p, gs with
  | [.one (.sl false (.pair (.int .i64) (.pair (.int .i64) (.int .i64))) none l), .agg [.int .i64 x, .int .i64 y, .int .i64 z]], 0, [] =>
    some (true, rowV (madeV l (x, y, z)).1 (madeV l (x, y, z)).2.2, [.arr true Term (madeV l (x, y, z)).2.1])
  | _, _, _ => none
theorem g45io : GoodS Tryd.prog N45 s45io := by
  refine GoodS.io (callable_of H45 (bd rfl) (by kernel_rfl)) fun a p gs r gs' hw1 hw2 h => ?_
  clear hw1 hw2
  split at h
  · rename_i l x y z
    cases h
    refine goodIO0 (.cons g84io (.nil _)) H45 rfl noL2 0 [] (noLoops2 (by kernel_rfl)) (lt l (x, y, z)) rfl (by show 2 ≤ _; decide) wRow ((r45io l (x, y, z)).trans ?_)
    simp only [madeV]
    cases (makeL l (x, y, z)).2.2 != 0 <;> rfl
  · cases h
def Γ17io : Orc := orc [(N44, s44), (N45, s45io), (N46, s46), (N47, s47)]
def s17io : Sp := .io fun a p gs => match a, p, gs with
  | [.one (.sl false (.pair (.int .i64) (.pair (.int .i64) (.int .i64))) none l), .agg [.bool k1, .bool k2, .int .u64 k3, .int .u64 k4, .int .u64 k5, .int .u64 k6, .int .u64 k7, .int .u64 k8, .int .i64 k9],
      .agg [.bool v1, .bool v2, .int .u64 v3, .int .u64 v4, .int .u64 v5, .int .u64 v6, .int .u64 v7, .int .u64 v8, .int .i64 v9]], 0, [] =>
    let k : Value.D := (k1, k2, (k3, k4), ((k5, k6), (k7, k8)), k9)
    let v : Value.D := (v1, v2, (v3, v4), ((v5, v6), (v7, v8)), v9)
    some (true, rowV (wrapV l k v).1 (wrapV l k v).2.2, [.arr true Term (wrapV l k v).2.1])
  | _, _, _ => none
theorem g23v : GoodS Tryd.prog N23 s22 := by
  have e : s23 = s22 := by
    unfold s23 s22
    congr 1
    funext x
    rw [partVR_eq]
  rw [← e]; exact g23
theorem g27v : GoodS Tryd.prog N27 s19 := by
  have e : s27 = s19 := by
    unfold s27 s19
    congr 1
    funext x
    rw [checkVR_eq]
  rw [← e]; exact g27
abbrev live4 : List (Nat × Dir) := [(0, .keep), (15, .keep), (16, .keep), (30, .keep), (39, .keep), (175, .keep), (176, .keep), (47, .keep), (197, .keep)]
def bump (t : Term.D) : Term.D := (IntKind.i64.wrap (t.1 + 1), t.2)
def vs4 (l was m : List Term.D) (up okk : Bool) (n i : Int) : List AV :=
  [.one (.sl false Term none l), .one (.bool up), .one (.hot 47 none), .one (.hot 197 none), .one (.bool okk), .one (.int .i64 n), .one (.int .i64 i), .arr true Term was, .gho (.arr true Term m)]
def Λ4 : Lam AV := fun cur vs K =>
  match cur, vs with
  | 0, [.one (.sl false (.pair (.int .i64) (.pair (.int .i64) (.int .i64))) none l), .one (.bool up), .one (.hot 47 none), .one (.hot 197 none), .one (.bool okk), .one (.int .i64 n), .one (.int .i64 0),
      .arr true (.pair (.int .i64) (.pair (.int .i64) (.int .i64))) was, .gho (.arr true (.pair (.int .i64) (.pair (.int .i64) (.int .i64))) m)] =>
    bif decide (n = m.length) && decide (n ≤ 9223372036854775807) then K (.exit 0) (vs4 l was (m.map bump) up okk n n) else none
  | _, _ => none
theorem bump_step (m : List Term.D) (j : Nat) (hj : j < m.length) : m.take j ++ (m.drop j).map bump = (m.set j (bump (tAt m j))).take (j + 1) ++ ((m.set j (bump (tAt m j))).drop (j + 1)).map bump := by
  have hA : (m.take j ++ [bump (tAt m j)]).length = j + 1 := by simp; omega
  have hs : m.set j (bump (tAt m j)) = (m.take j ++ [bump (tAt m j)]) ++ m.drop (j + 1) := by
    rw [List.set_eq_take_append_cons_drop, if_pos hj, List.append_assoc]; rfl
  rw [hs, List.take_left' hA, List.drop_left' hA, tAt_drop hj, List.map_cons, List.append_assoc]; rfl

@[reducible] def D7 : List AK := [.v (.sl Term), .v .bool, .v I, .v Block, .v Value, .v Value, .v I]
def fin4 (l m : List Term.D) (b : Bool) : Option AV :=
  bif decide ((m.length : Int) = m.length) && decide ((m.length : Int) ≤ 9223372036854775807) then ob (bif b then sameL l l else false) else none
def conj4 (l m : List Term.D) : List Bool → Option AV
  | [] => fin4 l m true
  | [c] => fin4 l m c
  | c :: r => bif c then conj4 l m r else fin4 l m false
def veq3 (x : Value.D × List Term.D × Int) : List Bool := [valEq x.1 x.1, sameL x.2.1 x.2.1, x.2.2 == x.2.2]
def all4 (l : List Term.D) (s : Bool) (n : Int) (b : Block.D) (v w : Value.D) (i : Int) : List Bool :=
  veq3 (atomV l s n b) ++ veq3 (partV l v i) ++ veq3 (wrapV l v w) ++ [valEq (unwrapV l v w).1 (unwrapV l v w).1, (unwrapV l v w).2 == (unwrapV l v w).2, checkV l v == checkV l v]

theorem wrapV_len (l : List Term.D) (k v : Value.D) : (wrapV l k v).2.1.length ≤ l.length + 1 := by
  unfold wrapV
  cases isV l [false, false] [k, v] != 0
  · cases k.1
    · simp
    · exact madeV_len l _
  · simp
theorem valEq_self (v : Value.D) : valEq v v = true := valEq_iff.2 rfl
theorem sameL_self (l : List Term.D) : sameL l l = true := decide_eq_true rfl

/-- A term is found where it is. -/
theorem findL_eq {l : List Term.D} {t : Term.D} (h : GoodL l) (hm : mayB t l.length = true) : findL l t = bif !mhas t (entsFrom l 0) then (0, 4) else (mgetD t (entsFrom l 0), 0) := by
  unfold findL findBad; rw [ixL_iff.2 h, ixEnts_eq h, hm]; rfl
theorem findL_zero {l : List Term.D} {t : Term.D} (h : (findL l t).2 = 0) : GoodL l ∧ mayB t l.length = true ∧ ∃ i : Nat, l[i]? = some t ∧ (findL l t).1 = i := by
  have hg := ixL_iff.1 (findL_ok (.inl h))
  cases hm : mayB t l.length with
  | false =>
    have : findL l t = (0, 1) := by unfold findL findBad; rw [hm, ixL_iff.2 hg]; rfl
    rw [this] at h; cases h
  | true =>
    refine ⟨hg, rfl, ?_⟩
    have e := findL_eq hg hm
    cases hh : mhas t (entsFrom l 0) with
    | false => rw [hh] at e; rw [e] at h; cases h
    | true =>
      rw [hh] at e
      have hmem := mhas_ents.1 hh
      cases hq : mget t (entsFrom l 0) with
      | none => exact absurd (mget_ents_none.1 hq) (by simpa using hmem)
      | some x =>
        obtain ⟨j, hj, hx⟩ := mget_ents_some hq
        refine ⟨j, hj, ?_⟩
        rw [e]
        show mgetD t (entsFrom l 0) = j
        unfold mgetD; rw [hq, hx]; simp
theorem findL_at {l : List Term.D} {t : Term.D} {i : Nat} (h : GoodL l) (hm : mayB t l.length = true) (hi : l[i]? = some t) : findL l t = ((i : Int), 0) := by
  have e := findL_eq h hm
  have hmem : t ∈ l := List.mem_of_getElem? hi
  rw [mhas_ents.2 hmem] at e
  rw [e]
  cases hq : mget t (entsFrom l 0) with
  | none => exact absurd (mget_ents_none.1 hq) (by simpa using hmem)
  | some x =>
    obtain ⟨j, hj, hx⟩ := mget_ents_some hq
    have := h.uniq hi hj
    subst this
    show (mgetD t (entsFrom l 0), (0 : Int)) = _
    unfold mgetD; rw [hq, hx]; simp
theorem badP_mono {p i j : Int} (h : badP i p = false) (hij : i ≤ j) : badP j p = false := by
  unfold badP at h ⊢
  cases hp : decide (p < 0) with
  | true => rw [hp] at h; cases h
  | false =>
    rw [hp] at h
    simp only [cond_false, decide_eq_false_iff_not] at h ⊢
    omega
theorem mayB_mono {t : Term.D} {i j : Int} (h : mayB t i = true) (hij : i ≤ j) : mayB t j = true := by
  unfold mayB at h ⊢
  cases hb : mayBad t with
  | true => rw [hb] at h; cases h
  | false =>
    rw [hb] at h
    simp only [cond_false] at h ⊢
    cases hk : t.1 == 1 with
    | true => rw [hk] at h; exact h
    | false =>
      rw [hk] at h
      simp only [cond_false, Bool.not_eq_true', List.any_eq_false] at h ⊢
      intro x hx
      have := h x hx
      simp only [Bool.not_eq_true] at this ⊢
      exact badP_mono this hij
theorem GoodL.take {l : List Term.D} (h : GoodL l) (n : Nat) : GoodL (l.take n) := by
  refine ⟨by have := h.1; simp; omega, fun j t hj => ?_⟩
  rw [List.getElem?_take] at hj
  split at hj
  · rename_i hlt
    obtain ⟨h1, h2⟩ := h.2 j t hj
    refine ⟨h1, ?_⟩
    rw [List.take_take, Nat.min_eq_left (by omega)]
    exact h2
  · cases hj
/-- What was found stays where it was, whatever is made behind it. -/
theorem find_stays {l : List Term.D} {t o : Term.D} (h : (findL l o).2 = 0) (hm : (makeL l t).2.2 = 0) : findL (makeL l t).2.1 o = ((findL l o).1, 0) := by
  obtain ⟨h1, h2, i, h3, h4⟩ := findL_zero h
  obtain ⟨_, _, j, _, k1, _, k2⟩ := makeL_ok hm
  rw [h4]
  rcases k2 with ⟨_, e⟩ | ⟨_, _, _, e⟩
  · rw [e]; exact findL_at h1 h2 h3
  · rw [e] at k1 ⊢
    refine findL_at k1 (mayB_mono h2 (by simp; omega)) ?_
    rw [List.getElem?_append_left (List.getElem?_eq_some_iff.1 h3).1]; exact h3
/-- The place to cut at. -/
theorem cut_ok {n : Nat} {cut : Int} (hn : n ≤ 1000000) : IntKind.i64.wrap ((n : Int) + 1) = (n : Int) + 1 ∧ decide ((n : Int) + 1 = 0) = false ∧
    IntKind.i64.wrap (IntKind.i64.wrap (cut.tmod ((n : Int) + 1) + n) + 1) = cut.tmod ((n : Int) + 1) + n + 1 ∧
    0 ≤ (cut.tmod ((n : Int) + 1) + n + 1).tmod ((n : Int) + 1) ∧ (cut.tmod ((n : Int) + 1) + n + 1).tmod ((n : Int) + 1) ≤ n := by
  have h0 : (0 : Int) < (n : Int) + 1 := by omega
  have h1 : cut.tmod ((n : Int) + 1) < (n : Int) + 1 := Int.tmod_lt_of_pos _ h0
  have h2 : -((n : Int) + 1) < cut.tmod ((n : Int) + 1) := by
    have := Int.tmod_lt_of_pos (-cut) h0
    rw [Int.neg_tmod] at this; omega
  have h3 : 0 ≤ cut.tmod ((n : Int) + 1) + n + 1 := by omega
  have h4 := Int.tmod_lt_of_pos (cut.tmod ((n : Int) + 1) + n + 1) h0
  have h5 := Int.tmod_nonneg ((n : Int) + 1) h3
  have w1 : IntKind.i64.wrap (cut.tmod ((n : Int) + 1) + n) = cut.tmod ((n : Int) + 1) + n := i64_in _ ⟨by omega, by omega⟩
  refine ⟨i64_in _ ⟨by omega, by omega⟩, decide_eq_false (by omega), ?_, h5, by omega⟩
  rw [w1]
  exact i64_in _ ⟨by omega, by omega⟩

theorem same_self2 (x : AV × List AV) : Same.eq x x = true := @decide_eq_true _ (Classical.propDecidable _) rfl
theorem sameO_rep2 (x : AV × List AV) : ∀ (n : Nat), sameO x (List.replicate n (some x)) = true
  | 0 => rfl
  | n + 1 => by
    show (Same.eq x x && sameO x (List.replicate n (some x))) = true
    rw [same_self2, sameO_rep2 x n]; rfl
theorem allSame_rep2 (x : AV × List AV) (n : Nat) : allSame (List.replicate (n + 1) (some x)) = some x := by
  show (bif sameO x (List.replicate n (some x)) then some x else none) = some x
  rw [sameO_rep2]; rfl
/-- A walker: its value, its terms, its error. -/
abbrev WS := Value.D × List Term.D × Int
def wk (x : WS) : AV := .own (.sl false Term none x.2.1 :: (enc Value true x.1 ++ [.int .i64 x.2.2]))
/-- One that is all new. -/
def wkT (x : WS) : AV := .own (.sl true Term none x.2.1 :: (enc Value true x.1 ++ [.int .i64 x.2.2]))
def unit2 (x : WS) : Option (AV × List AV) := some (.tup [], [wk x])
def stepW (x : WS) (i : Int) : WS := bif x.2.2 == 0 then partV x.2.1 x.1 i else x
/-- value.Part, whose row nobody writes. -/
def vlf (x : WS) : AV := .tup [(true, enc Value true x.1), (false, [.sl false Term none x.2.1]), (false, [.int .i64 x.2.2])]
abbrev wVlf : List WK := [.id, .sl false Term, .id]
theorem r22f (l : List Term.D) (v : Value.D) (i : Int) : run Γ22 noL [] F22 (encA P3 (l, v, i)) wVlf =
    bif partBad l v i then some (vlf (zeroV, [], 1)) else
    bif v.1 then some (vlf (madeV l (IntKind.i64.wrap (2 + i), v.2.2.2.2, 0))) else bif small24 l.length then some (vlf (octV (partR v.2.2.1 i).1, l, (partR v.2.2.1 i).2)) else none := by kernel_rfl
def s22f : Sp := .fn P3 fun x => (true, vlf (partV x.1 x.2.1 x.2.2))
theorem g22f : GoodS Tryd.prog N22 s22f := by
  refine good (.cons g44 (.cons g45 (.cons g47 (.cons g53 (.nil _))))) H22 rfl (by kernel_rfl) noL [] (noLoops (by kernel_rfl)) P3 (by decide) wVlf _ fun x r hw h => ?_
  obtain ⟨l, v, i⟩ := x
  cases h
  refine (r22f l v i).trans ?_
  simp only [partV]
  cases h0 : partBad l v i with
  | true => rfl
  | false =>
    cases v.1 with
    | true => rfl
    | false =>
      unfold partBad at h0
      cases h1 : isV l [false] [v] != 0 with
      | true => rw [h1] at h0; cases h0
      | false =>
        have hz : isV l [false] [v] = 0 := by simpa using h1
        rw [small_of (checkL_small (checkV_zero.1 (isV_one.1 hz).1).1)]; rfl
theorem r353 (l : List Term.D) (v : Value.D) (e i : Int) : runIO (orc [(N22, s22f)]) noL2 1 [] F353 [.one (.ptr 32 0), .one (.int .i64 i)] [wk (v, l, e)] 1 [] =
    bif e == 0 then unit2 (partV l v i) else unit2 (v, l, e) := by kernel_rfl
theorem r354 (l : List Term.D) (v : Value.D) (e : Int) : runIO (orc []) noL2 1 [] F354 [.one (.ptr 23 0)] [wk (v, l, e)] 1 [.id, .sl false Term, .id] =
    bif e != 0 then allSame (List.replicate 20 (some (vlf (zeroV, [], e), [wk (v, l, e)]))) else allSame (List.replicate 35 (some (vlf (v, l, 0), [wk (v, l, e)]))) := by kernel_rfl
def gd51 (l : List Term.D) (v : Value.D) : Bool := inB v.2.2.2.2 l.length || !((boolBeq (checkV l v == 0) true && boolBeq v.2.1 false) && boolBeq v.1 true)
def b51 (l : List Term.D) (v : Value.D) : Bool := bif checkV l v == 0 then bif v.2.1 then true else bif v.1 then (tAt l v.2.2.2.2).1 == 5 else false else false
/-- Clone, whose row nobody writes; it is new. -/
theorem r47nf (xs : List Term.D) : run (orc []) noL [] F47 [.one (.sl false Term (some true) xs)] [.sl true Term] = some (.one (.sl true Term none [])) := by kernel_rfl
theorem r47f (xs : List Term.D) : run (orc []) noL [] F47 [.one (.sl false Term (some false) xs)] [.sl true Term] =
    bif decide ((([] : List Term.D).length + xs.length) * 24 ≤ 140737488355328) then some (.one (.sl true Term none ([] ++ xs))) else none := by kernel_rfl
def s47f : Sp := .fn [.v (.sl Term)] fun xs => (small24 xs.length, .one (.sl true Term none xs))
theorem g47f : GoodS Tryd.prog N47 s47f := by
  refine .fn (callable_of H47 (bd rfl) (by kernel_rfl)) fun xs r hw h => ?_
  have hs : small24 xs.length = true := congrArg Prod.fst h
  obtain rfl : AV.one (.sl true Term none xs) = r := congrArg Prod.snd h
  refine good_nl (fun hx => ?_) ?_
  · subst hx
    exact ks47 [.sl true Term] _ (by show 1 ≤ _; decide) (r47nf [])
  · refine ks47 [.sl true Term] _ (by show 1 ≤ _; decide) ?_
    rw [r47f]
    have : decide ((([] : List Term.D).length + xs.length) * 24 ≤ 140737488355328) = true := by
      have := of_decide_eq_true hs
      exact decide_eq_true (by simpa using this)
    rw [this]; rfl
theorem r351 (l : List Term.D) (v : Value.D) : runIO (orc [(N19, s19), (N47, s47f)]) noL2 0 [] F351 (encA [.v (.sl Term), .v Value] (l, v)) [] 0 [] =
    bif gd51 l v then bif b51 l v then bif small24 l.length then some (.one (.ptr 0 0), [wkT (v, l, 1)]) else none else bif small24 l.length then some (.one (.ptr 0 0), [wkT (v, l, checkV l v)]) else none else none := by kernel_rfl
def unW : AV → Option WS
  | .own [.sl false (.pair (.int .i64) (.pair (.int .i64) (.int .i64))) none l, .bool a, .bool b, .int .u64 c, .int .u64 d, .int .u64 e, .int .u64 f, .int .u64 g, .int .u64 h, .int .i64 t, .int .i64 er] => some ((a, b, (c, d), ((e, f), (g, h)), t), l, er)
  | _ => none
theorem unW_eq {a : AV} {x : WS} (h : unW a = some x) : a = wk x := by
  unfold unW at h
  split at h
  · cases h; rfl
  · cases h
def unWT : AV → Option WS
  | .own [.sl true (.pair (.int .i64) (.pair (.int .i64) (.int .i64))) none l, .bool a, .bool b, .int .u64 c, .int .u64 d, .int .u64 e, .int .u64 f, .int .u64 g, .int .u64 h, .int .i64 t, .int .i64 er] => some ((a, b, (c, d), ((e, f), (g, h)), t), l, er)
  | _ => none
theorem unWT_eq {a : AV} {x : WS} (h : unWT a = some x) : a = wkT x := by
  unfold unWT at h
  split at h
  · cases h; rfl
  · cases h
def unV : AV → Option Value.D
  | .agg [.bool a, .bool b, .int .u64 c, .int .u64 d, .int .u64 e, .int .u64 f, .int .u64 g, .int .u64 h, .int .i64 t] => some (a, b, (c, d), ((e, f), (g, h)), t)
  | _ => none
theorem unV_eq {a : AV} {v : Value.D} (h : unV a = some v) : a = encV Value v := by
  unfold unV at h
  split at h
  · cases h; rfl
  · cases h
def s353 : Sp := .io fun a p gs => match a, p, gs with
  | [.one (.ptr 0 0), .one (.int .i64 i)], 1, [g] => (match unW g with
    | some x => some (true, .tup [], [wk (stepW x i)])
    | none => none)
  | _, _, _ => none
theorem g353 : GoodS Tryd.prog N353 s353 := by
  refine GoodS.io (callable_of H353 (bd rfl) (by kernel_rfl)) fun a p gs r gs' hw1 hw2 h => ?_
  clear hw1 hw2
  split at h
  · rename_i i g
    split at h
    · rename_i x hx
      obtain rfl := unW_eq hx
      cases h
      obtain ⟨v, l, e⟩ := x
      refine goodIO1 (.cons g22f (.nil _)) H353 rfl noL2 1 [] (noLoops2 (by kernel_rfl)) [.one (.ptr 0 0), .one (.int .i64 i)] [wk (v, l, e)] 1 (ys := [.one (.ptr 32 0), .one (.int .i64 i)]) (hs := [wk (v, l, e)]) rfl rfl rfl (Nat.le_refl 1) (by show 2 ≤ _; decide) (Nat.le_refl 1) [] ((r353 l v e i).trans ?_)
      unfold stepW
      cases h0 : e == 0 with
      | true => simp only [h0]; rfl
      | false => simp only [h0]; rfl
    · cases h
  · cases h
def endW (x : WS) : WS := bif x.2.2 != 0 then (zeroV, [], x.2.2) else (x.1, x.2.1, 0)
def s354 : Sp := .io fun a p gs => match a, p, gs with
  | [.one (.ptr 0 0)], 1, [g] => (match unW g with
    | some x => some (true, vlf (endW x), [wk x])
    | none => none)
  | _, _, _ => none
theorem g354 : GoodS Tryd.prog N354 s354 := by
  refine GoodS.io (callable_of H354 (bd rfl) (by kernel_rfl)) fun a p gs r gs' hw1 hw2 h => ?_
  clear hw1 hw2
  split at h
  · rename_i g
    split at h
    · rename_i x hx
      obtain rfl := unW_eq hx
      cases h
      obtain ⟨v, l, e⟩ := x
      refine goodIO1 (.nil _) H354 rfl noL2 1 [] (noLoops2 (by kernel_rfl)) [.one (.ptr 0 0)] [wk (v, l, e)] 1 (ys := [.one (.ptr 23 0)]) (hs := [wk (v, l, e)]) rfl rfl rfl (Nat.le_refl 1) (by show 1 ≤ _; decide) (Nat.le_refl 1) [.id, .sl false Term, .id] ((r354 l v e).trans ?_)
      unfold endW
      cases h0 : e != 0 with
      | true => simp only [h0]; exact allSame_rep2 _ 19
      | false => simp only [h0]; exact allSame_rep2 _ 34
    · cases h
  · cases h
def startE (l : List Term.D) (v : Value.D) : Int := bif b51 l v then 1 else checkV l v
def startW (l : List Term.D) (v : Value.D) : WS := (v, l, startE l v)
def s351 : Sp := .io fun a p gs => match a, p, gs with
  | [.one (.sl false (.pair (.int .i64) (.pair (.int .i64) (.int .i64))) none l), g], 0, [] => (match unV g with
    | some v => some (small24 l.length, .one (.ptr 0 0), [wkT (startW l v)])
    | none => none)
  | _, _, _ => none
theorem sym_in {l : List Term.D} {v : Value.D} (h : checkV l v = 0) (hv : v.1 = true) : inB v.2.2.2.2 l.length = true := by
  have hs : isSym l v = true := by
    have h1 := (checkV_zero.1 h).2
    cases hs : isSym l v with
    | true => rfl
    | false =>
      have : (plainV l v).1 = false := by unfold plainV; rw [hs]; cases v.2.1 <;> rfl
      rw [← h1, hv] at this; cases this
  unfold isSym at hs
  rw [hv] at hs
  simp only [cond_true] at hs
  unfold inB
  cases h2 : decide (v.2.2.2.2 ≥ 0) with
  | false => rw [h2] at hs; cases hs
  | true => rw [h2] at hs; rw [show decide (v.2.2.2.2 < (l.length : Int)) = true from hs]; rfl
theorem gd51_true (l : List Term.D) (v : Value.D) : gd51 l v = true := by
  unfold gd51
  cases h1 : checkV l v == 0 with
  | false => cases inB v.2.2.2.2 l.length <;> rfl
  | true =>
    cases h2 : v.1 with
    | false => cases inB v.2.2.2.2 l.length <;> cases v.2.1 <;> rfl
    | true => rw [sym_in (eq_of_beq h1) h2]; rfl
theorem g351 : GoodS Tryd.prog N351 s351 := by
  refine GoodS.io (callable_of H351 (bd rfl) (by kernel_rfl)) fun a p gs r gs' hw1 hw2 h => ?_
  clear hw1 hw2
  split at h
  · rename_i l g
    split at h
    · rename_i v hv
      obtain rfl := unV_eq hv
      simp only [Option.some.injEq, Prod.mk.injEq] at h
      obtain ⟨hs, rfl, rfl⟩ := h
      refine goodIO0 (.cons g19 (.cons g47f (.nil _))) H351 rfl noL2 0 [] (noLoops2 (by kernel_rfl)) (encA [.v (.sl Term), .v Value] (l, v)) rfl (by show 2 ≤ _; decide) [] ((r351 l v).trans ?_)
      rw [gd51_true, hs]
      unfold startW startE
      cases b51 l v <;> rfl
    · cases h
  · cases h
/-- Loops that count up, whatever they come to. -/
theorem upLoopR {ρ α : Type} {n : Nat} {F : Nat → α → Int → Option ρ} {G : Nat → α → Option ρ} (h1 : ∀ fuel a, F (fuel + 1) a n = G n a)
    (h2 : ∀ a (j : Nat), j < n → (∃ a', (∀ fuel, F (fuel + 1) a j = F fuel a' ((j + 1 : Nat) : Int)) ∧ G j a = G (j + 1) a') ∨ (∀ fuel, F (fuel + 1) a j = G j a)) :
    ∀ (m j : Nat) (a : α) (out : ρ), j + m = n → G j a = some out → ∃ fuel, F fuel a j = some out := by
  intro m
  induction m with
  | zero =>
    intro j a out hj h
    obtain rfl : j = n := by omega
    exact ⟨1, (h1 0 a).trans h⟩
  | succ m ih =>
    intro j a out hj h
    rcases h2 a j (by omega) with ⟨a', g1, g2⟩ | g
    · obtain ⟨fuel, hf⟩ := ih (j + 1) a' out (by omega) (g2 ▸ h)
      exact ⟨fuel + 1, (g1 fuel).trans hf⟩
    · exact ⟨1, (g 0).trans h⟩
def walkL : WS → List Int → WS
  | x, [] => x
  | x, s :: r => walkL (stepW x s) r
def gW (x : WS) : AV := .gho (wk x).ov
def Γ385 : Orc := orc [(N311, s311), (N353, s353)]
abbrev live385 : List (Nat × Dir) := [(0, .keep), (28, .keep), (29, .keep), (30, .keep), (38, .keep)]
def vs385 (l : List Int) (n i : Int) (x : WS) : List AV := [.one (.ptr 38 0), .one (.sl true I none l), .one (.int .i64 n), .one (.int .i64 i), gW x]
noncomputable abbrev lp385 (Λ : Lam (AV × List AV)) (K : AE → List AV → Option (AV × List AV)) (fuel : Nat) (vs : List AV) : Option (AV × List AV) := loopN (aexec tb Γ385 Λ ⟨38, 1, [(0, live385)]⟩ (loopK F385 0).2 0) 38 1 live385 K fuel vs
theorem step385 (l : List Int) (n i : Int) (x : WS) (Λ : Lam (AV × List AV)) (fuel : Nat) (K : AE → List AV → Option (AV × List AV)) : lp385 Λ K (fuel + 1) (vs385 l n i x) =
    bif decide (i < n) then bif inB i l.length then lp385 Λ K fuel (vs385 l n (IntKind.i64.wrap (i + 1)) (stepW x (iAt l i))) else none else K (.exit 0) (vs385 l n i x) := by kernel_rfl
def Λ385 : Lam (AV × List AV) := fun cur vs K =>
  match cur, vs with
  | 0, [.one (.ptr 38 0), .one (.sl true (.int .i64) none l), .one (.int .i64 n), .one (.int .i64 0), .gho o] =>
    (match unW o.av with
    | some x => bif decide (n = l.length) && decide (n ≤ 9223372036854775807) then K (.exit 0) (vs385 l n n (walkL x l)) else none
    | none => none)
  | _, _ => none
theorem walk_drop {x : WS} {l : List Int} {j : Nat} (h : j < l.length) : walkL x (l.drop j) = walkL (stepW x (iAt l j)) (l.drop (j + 1)) := by
  rw [List.drop_eq_getElem_cons h]
  simp [iAt, h, walkL]
theorem gW_eq {o : OV} {x : WS} (h : unW o.av = some x) : AV.gho o = gW x := by
  have := unW_eq h
  unfold gW
  rw [← this]
  cases o <;> first | rfl | cases h
theorem loop385 : LoopP tb Γ385 Λ385 ⟨38, 1, [(0, live385)]⟩ (loopK F385 0) := by
  intro vs K out e
  have hcur : (loopK F385 0).1 = 0 := by kernel_rfl
  rw [hcur] at e ⊢
  unfold Λ385 at e
  split at e
  · rename_i l n o _
    split at e
    · rename_i x hx
      cases hc : (decide (n = l.length) && decide (n ≤ 9223372036854775807)) with
      | false => rw [hc] at e; cases e
      | true =>
        rw [hc] at e
        simp only [cond_true] at e
        simp only [Bool.and_eq_true, decide_eq_true_eq] at hc
        obtain ⟨rfl, hmax⟩ := hc
        rw [gW_eq hx]
        refine upLoopR (α := WS) (n := l.length) (F := fun fuel x i => lp385 Λ385 K fuel (vs385 l l.length i x)) (G := fun j x => K (.exit 0) (vs385 l l.length l.length (walkL x (l.drop j))))
          (fun fuel x => ?_) (fun x j hj => ?_) l.length 0 x out (by omega) e
        · simp only [step385, nlt_dec, cond_false, List.drop_length, walkL]
        · left
          refine ⟨stepW x (iAt l j), fun fuel => ?_, by rw [walk_drop hj]⟩
          simp only [step385, lt_dec hj, inB_lt hj, cond_true]
          rw [wrap64 (by omega) (by omega)]; rfl
    · cases e
  · cases e
def pathW (x : WS) (h a b : Int) : WS := walkL (bif x.2.2 == 0 then (x.1, x.2.1, (pathI h a b).2) else x) (pathI h a b).1
def lenB (l : List Int) : Bool := decide ((l.length : Int) = l.length) && decide ((l.length : Int) ≤ 9223372036854775807)
theorem r385 (h a b : Int) (x : WS) : runIO Γ385 Λ385 1 [(0, live385)] F385 [.one (.ptr 38 0), .one (.int .i64 h), .one (.int .u64 a), .one (.int .u64 b)] [wk x] 1 [] =
    bif x.2.2 == 0 then bif lenB (pathI h a b).1 then unit2 (walkL (x.1, x.2.1, (pathI h a b).2) (pathI h a b).1) else none else bif lenB (pathI h a b).1 then unit2 (walkL x (pathI h a b).1) else none := by kernel_rfl
theorem setG_len (b : Int) (n : Nat) : ∀ (m j : Nat) (l : List Int), (setG b n m j l).length = l.length := by
  intro m
  induction m with
  | zero => intro j l; rfl
  | succ m ih => intro j l; rw [setG, ih]; simp
theorem path_len (h a b : Int) : (pathI h a b).1.length ≤ 64 := by
  unfold pathI
  cases hb : bothI h a b != 0 with
  | true => exact Nat.zero_le _
  | false =>
    cases ha : aboveB a b with
    | false => exact Nat.zero_le _
    | true =>
      show (setG b (pathN a b).toNat (pathN a b).toNat 0 (List.replicate (pathN a b).toNat 0)).length ≤ 64
      rw [setG_len, List.length_replicate]
      have hc : (chkI h b != 0) = false := by
        cases hc : chkI h b != 0 with
        | false => rfl
        | true =>
          unfold bothI both at hb
          rw [hc] at hb
          cases h1 : chkI h a != 0 <;> rw [h1] at hb <;> exact absurd hb (by decide)
      obtain ⟨c1, c2, c3⟩ := chk_zero hc
      have c4 := highB_iff.1 c1
      have c5 := lenI_nonneg a
      unfold pathN depI at *
      omega
theorem lenB_path (h a b : Int) : lenB (pathI h a b).1 = true := lenMax (Nat.le_trans (path_len h a b) (by decide))
def s385 : Sp := .io fun a p gs => match a, p, gs with
  | [.one (.ptr 0 0), .one (.int .i64 h), .one (.int .u64 a), .one (.int .u64 b)], 1, [g] => (match unW g with
    | some x => some (true, .tup [], [wk (pathW x h a b)])
    | none => none)
  | _, _, _ => none
theorem oneLoop2 {Γ : Orc} {Λ : Lam (AV × List AV)} {ms : Lay} {c : Code} {p0 : Nat × Code} (h : loopsOf 0 c = [p0]) (h0 : LoopP tb Γ Λ ms p0) : ∀ p ∈ loopsOf 0 c, LoopP tb Γ Λ ms p := by
  rw [h]; intro p hp; rw [List.mem_singleton.1 hp]; exact h0
theorem g385 : GoodS Tryd.prog N385 s385 := by
  refine GoodS.io (callable_of H385 (bd rfl) (by kernel_rfl)) fun a p gs r gs' hw1 hw2 h => ?_
  clear hw1 hw2
  split at h
  · rename_i h' a b g
    split at h
    · rename_i x hx
      obtain rfl := unW_eq hx
      cases h
      refine goodIO1 (.cons g311 (.cons g353 (.nil _))) H385 rfl Λ385 1 [(0, live385)] (oneLoop2 (p0 := loopK F385 0) (by kernel_rfl) loop385) [.one (.ptr 0 0), .one (.int .i64 h'), .one (.int .u64 a), .one (.int .u64 b)] [wk x] 1 (ys := [.one (.ptr 38 0), .one (.int .i64 h'), .one (.int .u64 a), .one (.int .u64 b)]) (hs := [wk x]) rfl rfl rfl (Nat.le_refl 1) (by show 4 ≤ _; decide) (Nat.le_refl 1) [] ((r385 h' a b x).trans ?_)
      rw [lenB_path]
      unfold pathW
      cases x.2.2 == 0 <;> rfl
    · cases h
  · cases h
def labelW (x : WS) (h : Int) (s : Subset.D) : WS := bif s.2 != 0 then pathW (stepW (pathW x h 1 s.1) 2) h s.1 s.2 else stepW (pathW x h 1 s.1) 2
theorem r352 (x : WS) (h : Int) (s : Subset.D) : runIO (orc [(N385, s385), (N353, s353)]) noL2 1 [] F352 [.one (.ptr 23 0), .one (.int .i64 h), .agg [.int .u64 s.1, .int .u64 s.2]] [wk x] 1 [] =
    bif s.2 != 0 then unit2 (pathW (stepW (pathW x h 1 s.1) 2) h s.1 s.2) else unit2 (stepW (pathW x h 1 s.1) 2) := by kernel_rfl
def s352 : Sp := .io fun a p gs => match a, p, gs with
  | [.one (.ptr 0 0), .one (.int .i64 h), .agg [.int .u64 i, .int .u64 j]], 1, [g] => (match unW g with
    | some x => some (true, .tup [], [wk (labelW x h (i, j))])
    | none => none)
  | _, _, _ => none
theorem g352 : GoodS Tryd.prog N352 s352 := by
  refine GoodS.io (callable_of H352 (bd rfl) (by kernel_rfl)) fun a p gs r gs' hw1 hw2 h => ?_
  clear hw1 hw2
  split at h
  · rename_i h' i j g
    split at h
    · rename_i x hx
      obtain rfl := unW_eq hx
      cases h
      refine goodIO1 (.cons g385 (.cons g353 (.nil _))) H352 rfl noL2 1 [] (noLoops2 (by kernel_rfl)) [.one (.ptr 0 0), .one (.int .i64 h'), .agg [.int .u64 i, .int .u64 j]] [wk x] 1 (ys := [.one (.ptr 23 0), .one (.int .i64 h'), .agg [.int .u64 i, .int .u64 j]]) (hs := [wk x]) rfl rfl rfl (Nat.le_refl 1) (by show 3 ≤ _; decide) (Nat.le_refl 1) [] ((r352 x h' (i, j)).trans ?_)
      unfold labelW
      cases (i, j).2 != 0 <;> rfl
    · cases h
  · cases h
def oddB (s : Int) : Bool := IntKind.i64.wrap (BitVec.ofInt 64 s &&& ~~~(BitVec.ofInt 64 1)).toNat != 0
theorem r377 (s : Int) : run (orc []) noL [] F377 (encA [.v I] s) [] = some (.one (.bool (oddB s))) := by kernel_rfl
def s377 : Sp := .fn [.v I] fun s => (true, .one (.bool (oddB s)))
theorem g377 : GoodS Tryd.prog N377 s377 := by
  refine good (.nil _) H377 rfl (by kernel_rfl) noL [] (noLoops (by kernel_rfl)) [.v I] (by decide) [] _ fun s r hw e => ?_
  cases e
  exact r377 s
def clO : AV := .one (.fn N377 [])
def isO (c : AV) : Bool :=
  match c with
  | .one (.fn f []) => Nat.beq f N377
  | _ => false
theorem isO_eq {c : AV} (h : isO c = true) : c = clO := by
  unfold isO at h
  split at h
  · obtain rfl := Nat.eq_of_beq_eq_true h; rfl
  · cases h
abbrev liveO : List (Nat × Dir) := [(0, .keep), (1, .keep), (4, .keep), (7, .keep), (8, .keep)]
def vsO (l : List Int) (c : AV) (r n i : Int) : List AV := [.one (.sl false I none l), c, .one (.int .i64 r), .one (.int .i64 n), .one (.int .i64 i)]
def ΓO : Orc := orc [(N377, s377)]
noncomputable abbrev lpO (Λ : Lam AV) (K : AE → List AV → Option AV) (fuel : Nat) (vs : List AV) : Option AV := loopN (aexec tb ΓO Λ ⟨19, 0, [(0, liveO)]⟩ (loopK F101 0).2 0) 19 0 liveO K fuel vs
theorem stepO (l : List Int) (r n i : Int) (Λ : Lam AV) (fuel : Nat) (K : AE → List AV → Option AV) : lpO Λ K (fuel + 1) (vsO l clO r n i) =
    bif decide (i < n) then bif inB i l.length then bif oddB (iAt l i) then K .ret (vsO l clO i n i) else lpO Λ K fuel (vsO l clO r n (IntKind.i64.wrap (i + 1))) else none else K (.exit 0) (vsO l clO r n i) := by kernel_rfl
def ΛO : Lam AV := fun cur vs K =>
  match cur, vs with
  | 0, [.one (.sl false (.int .i64) none l), c, .one (.int .i64 r), .one (.int .i64 n), .one (.int .i64 0)] =>
    bif isO c && decide (n = l.length) && decide (n ≤ 9223372036854775807) then
      bif decide (idxFrom oddB l 0 < 0) then K (.exit 0) (vsO l c r n n) else K .ret (vsO l c (idxFrom oddB l 0) n (idxFrom oddB l 0))
    else none
  | _, _ => none
theorem iAt_cons {l : List Int} {j : Nat} (h : j < l.length) : l.drop j = iAt l j :: l.drop (j + 1) := by
  rw [List.drop_eq_getElem_cons h]
  simp [iAt, h]
theorem loopO : LoopP tb ΓO ΛO ⟨19, 0, [(0, liveO)]⟩ (loopK F101 0) := by
  intro vs K out e
  have hcur : (loopK F101 0).1 = 0 := by kernel_rfl
  rw [hcur] at e ⊢
  unfold ΛO at e
  split at e
  · rename_i l c r n _
    cases hc : (isO c && decide (n = l.length) && decide (n ≤ 9223372036854775807)) with
    | false => rw [hc] at e; cases e
    | true =>
      rw [hc] at e
      simp only [cond_true] at e
      simp only [Bool.and_eq_true, decide_eq_true_eq] at hc
      obtain ⟨⟨hc, rfl⟩, hmax⟩ := hc
      obtain rfl := isO_eq hc
      refine upLoop (α := Unit) (n := l.length) (F := fun fuel _ i => lpO ΛO K fuel (vsO l clO r l.length i))
        (G := fun j _ => bif decide (idxFrom oddB (l.drop j) j < 0) then K (.exit 0) (vsO l clO r l.length l.length) else K .ret (vsO l clO (idxFrom oddB (l.drop j) j) l.length (idxFrom oddB (l.drop j) j)))
        (fun fuel _ => ?_) (fun _ j hj => ?_) l.length 0 () out (by omega) e
      · simp only [stepO, nlt_dec, cond_false, List.drop_length, idxFrom]; rfl
      · cases hx : oddB (iAt l j) with
        | true =>
          right; intro fuel
          have h0 : decide ((j : Int) < 0) = false := by simp
          simp only [stepO, lt_dec hj, inB_lt hj, hx, cond_true, cond_false, iAt_cons hj, idxFrom, h0]
        | false =>
          left; refine ⟨(), fun fuel => ?_, ?_⟩
          · simp only [stepO, lt_dec hj, inB_lt hj, hx, cond_true, cond_false]
            rw [wrap64 (by omega) (by omega)]; rfl
          · simp only [iAt_cons hj, idxFrom, hx, cond_false]; rfl
  · cases e
def rO (l : List Int) : Option AV :=
  bif isO clO && decide ((l.length : Int) = l.length) && decide ((l.length : Int) ≤ 9223372036854775807) then bif decide (idxFrom oddB l 0 < 0) then some (.one (.int .i64 (-1))) else some (.one (.int .i64 (idxFrom oddB l 0))) else none
theorem r101o (l : List Int) : run ΓO ΛO [(0, liveO)] F101 [.one (.sl false I none l), clO] [] = rO l := by kernel_rfl
def s101o : Sp := .fn [.v (.sl I), .raw] fun x => (isO x.2, .one (.int .i64 (idxFrom oddB x.1 0)))
theorem g101o : GoodS Tryd.prog N101 s101o := by
  refine good (.cons g377 (.nil _)) H101 rfl (by kernel_rfl) ΛO [(0, liveO)] (oneLoop (p0 := loopK F101 0) (by kernel_rfl) loopO) [.v (.sl I), .raw] (by decide) [] _ fun x r hw h => ?_
  obtain ⟨l, c⟩ := x
  simp only [Prod.mk.injEq] at h
  obtain ⟨h1, rfl⟩ := h
  obtain rfl := isO_eq h1
  refine (r101o l).trans ?_
  unfold rO
  rw [show (isO clO && decide ((l.length : Int) = l.length) && decide ((l.length : Int) ≤ 9223372036854775807)) = true by rw [h1, Bool.true_and]; exact lenMax hw.1.1]
  rcases idxFrom_ge oddB l 0 with h | h
  · rw [h]; rfl
  · have : decide (idxFrom oddB l 0 < 0) = false := by simpa using h
    rw [this]; rfl
theorem r67o (l : List Int) : run (orc [(N101, s101o)]) noL [] F67 [.one (.sl false I none l), clO] [] = some (.one (.bool (decide (idxFrom oddB l 0 ≥ 0)))) := by kernel_rfl
def s67o : Sp := .fn [.v (.sl I), .raw] fun x => (isO x.2, .one (.bool (x.1.any oddB)))
theorem g67o : GoodS Tryd.prog N67 s67o := by
  refine good (.cons g101o (.nil _)) H67 rfl (by kernel_rfl) noL [] (noLoops (by kernel_rfl)) [.v (.sl I), .raw] (by decide) [] _ fun x r hw h => ?_
  obtain ⟨l, c⟩ := x
  simp only [Prod.mk.injEq] at h
  obtain ⟨h1, rfl⟩ := h
  obtain rfl := isO_eq h1
  refine (r67o l).trans ?_
  rw [idx_any _ _ _ (Int.le_refl 0)]
def gWT (x : WS) : AV := .gho (wkT x).ov
theorem gWT_eq {o : OV} {x : WS} (h : unWT o.av = some x) : AV.gho o = gWT x := by
  have := unWT_eq h
  unfold gWT
  rw [← this]
  cases o <;> first | rfl | cases h
def Γ346 : Orc := orc [(N351, s351), (N67, s67o), (N353, s353), (N354, s354)]
abbrev live346 : List (Nat × Dir) := [(6, .keep), (9, .keep), (32, .keep), (33, .keep), (34, .keep), (47, .keep)]
def vs346 (l : List Int) (n i : Int) (x : WS) : List AV := [.own (enc Value false zeroV), .one (.ptr 47 0), .one (.sl false I none l), .one (.int .i64 n), .one (.int .i64 i), gWT x]
noncomputable abbrev lp346 (Λ : Lam AV) (K : AE → List AV → Option AV) (fuel : Nat) (vs : List AV) : Option AV := loopN (aexec tb Γ346 Λ ⟨47, 1, [(0, live346)]⟩ (loopK F346 0).2 0) 47 1 live346 K fuel vs
theorem step346 (l : List Int) (n i : Int) (x : WS) (Λ : Lam AV) (fuel : Nat) (K : AE → List AV → Option AV) : lp346 Λ K (fuel + 1) (vs346 l n i x) =
    bif decide (i < n) then bif inB i l.length then lp346 Λ K fuel (vs346 l n (IntKind.i64.wrap (i + 1)) (stepW x (iAt l i))) else none else K (.exit 0) (vs346 l n i x) := by kernel_rfl
def Λ346 : Lam AV := fun cur vs K =>
  match cur, vs with
  | 0, [.own [.bool false, .bool false, .int .u64 0, .int .u64 0, .int .u64 0, .int .u64 0, .int .u64 0, .int .u64 0, .int .i64 0], .one (.ptr 47 0), .one (.sl false (.int .i64) none l), .one (.int .i64 n), .one (.int .i64 0), .gho o] =>
    (match unWT o.av with
    | some x => bif decide (n = l.length) && decide (n ≤ 9223372036854775807) then K (.exit 0) (vs346 l n n (walkL x l)) else none
    | none => none)
  | _, _ => none
theorem loop346 : LoopP tb Γ346 Λ346 ⟨47, 1, [(0, live346)]⟩ (loopK F346 0) := by
  intro vs K out e
  have hcur : (loopK F346 0).1 = 0 := by kernel_rfl
  rw [hcur] at e ⊢
  unfold Λ346 at e
  split at e
  · rename_i l n o _
    split at e
    · rename_i x hx
      cases hc : (decide (n = l.length) && decide (n ≤ 9223372036854775807)) with
      | false => rw [hc] at e; cases e
      | true =>
        rw [hc] at e
        simp only [cond_true] at e
        simp only [Bool.and_eq_true, decide_eq_true_eq] at hc
        obtain ⟨rfl, hmax⟩ := hc
        rw [gWT_eq hx]
        refine upLoopR (α := WS) (n := l.length) (F := fun fuel x i => lp346 Λ346 K fuel (vs346 l l.length i x)) (G := fun j x => K (.exit 0) (vs346 l l.length l.length (walkL x (l.drop j))))
          (fun fuel x => ?_) (fun x j hj => ?_) l.length 0 x out (by omega) e
        · simp only [step346, nlt_dec, cond_false, List.drop_length, walkL]
        · left
          refine ⟨stepW x (iAt l j), fun fuel => ?_, by rw [walk_drop hj]⟩
          simp only [step346, lt_dec hj, inB_lt hj, cond_true]
          rw [wrap64 (by omega) (by omega)]; rfl
    · cases e
  · cases e
@[reducible] def W3 : List AK := [.v (.sl Term), .v Value, .v (.sl I)]
def noWalk (l : List Term.D) (v : Value.D) (sd : List Int) : Bool := bif bif startE l v != 0 then true else decide ((sd.length : Int) > 32) then true else sd.any oddB
def walkV (l : List Term.D) (v : Value.D) (sd : List Int) : WS := bif noWalk l v sd then (zeroV, [], 1) else endW (walkL (startW l v) sd)
theorem r346 (l : List Term.D) (v : Value.D) (sd : List Int) : runG Γ346 Λ346 1 [(0, live346)] F346 (encA W3 (l, v, sd)) wVle =
    bif small24 l.length then bif noWalk l v sd then some (vle (zeroV, [], 1)) else bif lenB sd then some (vle (endW (walkL (startW l v) sd))) else none else none := by kernel_rfl
def s346 : Sp := .fn W3 fun x => (small24 x.1.length, vle (walkV x.1 x.2.1 x.2.2))
theorem Γ346ok : OrcOk Tryd.prog Γ346 := .cons g351 (.cons g67o (.cons g353 (.cons g354 (.nil _))))
theorem g346 : GoodS Tryd.prog N346 s346 := by
  refine goodG Γ346ok H346 rfl (by kernel_rfl) Λ346 1 [(0, live346)] (oneLoop (p0 := loopK F346 0) (by kernel_rfl) loop346) W3 (by decide) wVle _ fun x r hw e => ?_
  obtain ⟨l, v, sd⟩ := x
  have e1 := congrArg Prod.fst e
  have e2 := congrArg Prod.snd e
  simp only at e1 e2
  refine (r346 l v sd).trans ?_
  rw [e1, ← e2, show lenB sd = true from lenMax hw.2.2.1]
  unfold walkV
  cases noWalk l v sd <;> rfl
@[reducible] def L4 : List AK := [.v (.sl Term), .v I, .v Value, .v Subset]
def ΓLa : Orc := orc [(N351, s351), (N341, s341), (N352, s352), (N354, s354)]
def noLab (l : List Term.D) (h : Int) (v : Value.D) (s : Subset.D) : Bool := bif startE l v != 0 then true else subE h s != 0
def labelV (l : List Term.D) (h : Int) (v : Value.D) (s : Subset.D) : WS := bif noLab l h v s then (zeroV, [], 1) else endW (labelW (startW l v) h s)
theorem r347 (l : List Term.D) (h : Int) (v : Value.D) (s : Subset.D) : runG ΓLa noL 1 [] F347 (encA L4 (l, h, v, s)) wVle =
    bif small24 l.length then bif noLab l h v s then some (vle (zeroV, [], 1)) else some (vle (endW (labelW (startW l v) h s))) else none := by kernel_rfl
def s347 : Sp := .fn L4 fun x => (small24 x.1.length, vle (labelV x.1 x.2.1 x.2.2.1 x.2.2.2))
theorem g347 : GoodS Tryd.prog N347 s347 := by
  refine goodG (.cons g351 (.cons g341 (.cons g352 (.cons g354 (.nil _))))) H347 rfl (by kernel_rfl) noL 1 [] (noLoops (by kernel_rfl)) L4 (by decide) wVle _ fun x r hw e => ?_
  obtain ⟨l, h, v, s⟩ := x
  have e1 := congrArg Prod.fst e
  have e2 := congrArg Prod.snd e
  simp only at e1 e2
  refine (r347 l h v s).trans ?_
  rw [e1, ← e2]
  unfold labelV
  cases noLab l h v s <;> rfl
@[reducible] def L5 : List AK := [.v (.sl Term), .v I, .v I, .v Value, .v Subset]
def ΓKe : Orc := orc [(N351, s351), (N318, s318), (N352, s352), (N353, s353), (N354, s354)]
def noKey (l : List Term.D) (h k : Int) (v : Value.D) (s : Subset.D) : Bool := bif bif startE l v != 0 then true else (mayI h k s).2 != 0 then true else !(mayI h k s).1
def keyV (l : List Term.D) (h k : Int) (v : Value.D) (s : Subset.D) : WS := bif noKey l h k v s then (zeroV, [], 1) else bif k != 1 then endW (stepW (labelW (startW l v) h s) 2) else endW (labelW (startW l v) h s)
theorem r320 (l : List Term.D) (h k : Int) (v : Value.D) (s : Subset.D) : runG ΓKe noL 1 [] F320 (encA L5 (l, h, k, v, s)) wVle =
    bif small24 l.length then bif noKey l h k v s then some (vle (zeroV, [], 1)) else bif k != 1 then some (vle (endW (stepW (labelW (startW l v) h s) 2))) else some (vle (endW (labelW (startW l v) h s))) else none := by kernel_rfl
def s320 : Sp := .fn L5 fun x => (small24 x.1.length, vle (keyV x.1 x.2.1 x.2.2.1 x.2.2.2.1 x.2.2.2.2))
theorem g320 : GoodS Tryd.prog N320 s320 := by
  refine goodG (.cons g351 (.cons g318 (.cons g352 (.cons g353 (.cons g354 (.nil _)))))) H320 rfl (by kernel_rfl) noL 1 [] (noLoops (by kernel_rfl)) L5 (by decide) wVle _ fun x r hw e => ?_
  obtain ⟨l, h, k, v, s⟩ := x
  have e1 := congrArg Prod.fst e
  have e2 := congrArg Prod.snd e
  simp only at e1 e2
  refine (r320 l h k v s).trans ?_
  rw [e1, ← e2]
  unfold keyV
  cases noKey l h k v s with
  | true => rfl
  | false => cases k != 1 <;> rfl

@[reducible] def Entry : Ty := .pair Subset Value
abbrev live349 : List (Nat × Dir) := [(0, .keep), (4, .keep), (10, .keep), (11, .keep), (36, .keep), (37, .keep), (38, .keep)]
def vs349 (l : List Term.D) (e0 : List Entry.D) (r : Int) (ps : List Subset.D) (es : List Entry.D) (n i : Int) : List AV := [.one (.sl false Term none l), .one (.sl false Entry none e0), .one (.int .i64 r), .one (.sl true Subset none ps), .one (.sl false Entry none es), .one (.int .i64 n), .one (.int .i64 i)]
def openV (l : List Term.D) (v : Value.D) : Bool := bif (bif checkV l v == 0 then !v.2.1 else false) then bif !v.1 then true else (tAt l v.2.2.2.2).1 != 5 else false
def g379' (l : List Term.D) (v : Value.D) : Bool := inB v.2.2.2.2 l.length || !(boolBeq (bif checkV l v == 0 then !v.2.1 else false) true && boolBeq (!v.1) false)
def s379 : Sp := .fn [.v (.sl Term), .v Value] fun x => (true, .one (.bool (openV x.1 x.2)))
abbrev live317 : List (Nat × Dir) := [(0, .keep), (1, .keep), (2, .keep), (8, .keep), (10, .keep), (11, .keep), (12, .keep), (14, .keep), (17, .arr Entry), (43, .keep), (44, .keep), (45, .keep)]
def vs317 (l : List Term.D) (h k : Int) (m : Value.D) (r e : Int) (out : List Entry.D) (ps : List Subset.D) (n i : Int) : List AV :=
  [.one (.sl true Term none l), .one (.int .i64 h), .one (.int .i64 k), .own (enc Value false m), .one .nils, .one .nils, .one (.int .i64 r), .one (.int .i64 e), .arr true Entry out, .one (.sl true Subset none ps), .one (.int .i64 n), .one (.int .i64 i)]
def set1 (out : List Entry.D) (i : Int) (s : Subset.D) : List Entry.D := out.set i.toNat (s, (out.getD i.toNat Entry.dflt).2)
def set2 (out : List Entry.D) (i : Int) (v : Value.D) : List Entry.D := out.set i.toNat ((out.getD i.toNat Entry.dflt).1, v)
theorem makeL_bd (l : List Term.D) (t : Term.D) : (makeL l t).2.1.length ≤ max l.length 65537 := by
  simp only [makeL]
  cases h0 : (findL l t).2 == 0 with
  | true => simp only [cond_true]; omega
  | false =>
    cases h4 : (findL l t).2 != 4 with
    | true => simp
    | false =>
      have hl := ixL_len (findL_ok (.inr (by simpa using h4)))
      cases (l.length : Int) == 65536 with
      | true => simp
      | false => simp; omega
theorem madeV_bd (l : List Term.D) (t : Term.D) : (madeV l t).2.1.length ≤ max l.length 65537 := by
  unfold madeV
  cases (makeL l t).2.2 != 0 with
  | true => simp
  | false => exact makeL_bd l t
theorem partV_bd (l : List Term.D) (v : Value.D) (i : Int) : (partV l v i).2.1.length ≤ max l.length 65537 := by
  unfold partV
  cases partBad l v i with
  | true => simp
  | false =>
    cases v.1 with
    | true => exact madeV_bd l _
    | false => simp; omega
theorem stepW_bd (x : WS) (i : Int) : (stepW x i).2.1.length ≤ max x.2.1.length 65537 := by
  unfold stepW
  cases x.2.2 == 0 with
  | true => exact partV_bd _ _ _
  | false => simp only [cond_false]; omega
theorem walkL_bd : ∀ (sd : List Int) (x : WS), (walkL x sd).2.1.length ≤ max x.2.1.length 65537 := by
  intro sd
  induction sd with
  | nil => intro x; simp only [walkL]; omega
  | cons i sd ih =>
    intro x
    have h1 := ih (stepW x i)
    have h2 := stepW_bd x i
    simp only [walkL]; omega
theorem pathW_bd (x : WS) (h a b : Int) : (pathW x h a b).2.1.length ≤ max x.2.1.length 65537 := by
  unfold pathW
  refine Nat.le_trans (walkL_bd _ _) ?_
  cases x.2.2 == 0 <;> simp <;> omega
theorem labelW_bd (x : WS) (h : Int) (s : Subset.D) : (labelW x h s).2.1.length ≤ max x.2.1.length 65537 := by
  have h1 := pathW_bd x h 1 s.1
  have h2 := stepW_bd (pathW x h 1 s.1) 2
  unfold labelW
  cases s.2 != 0 with
  | true =>
    have h3 := pathW_bd (stepW (pathW x h 1 s.1) 2) h s.1 s.2
    simp only [cond_true]; omega
  | false => simp only [cond_false]; omega
theorem endW_bd (x : WS) : (endW x).2.1.length ≤ x.2.1.length := by
  unfold endW
  cases x.2.2 != 0 <;> simp
theorem keyV_bd (l : List Term.D) (h k : Int) (v : Value.D) (s : Subset.D) : (keyV l h k v s).2.1.length ≤ max l.length 65537 := by
  unfold keyV
  cases noKey l h k v s with
  | true => simp
  | false =>
    have h1 := labelW_bd (startW l v) h s
    have h2 := stepW_bd (labelW (startW l v) h s) 2
    have h3 := endW_bd (stepW (labelW (startW l v) h s) 2)
    have h4 := endW_bd (labelW (startW l v) h s)
    have h5 : (startW l v).2.1.length = l.length := rfl
    cases k != 1 with
    | true => simp only [cond_true, cond_false]; omega
    | false => simp only [cond_false]; omega
theorem labelV_bd (l : List Term.D) (h : Int) (v : Value.D) (s : Subset.D) : (labelV l h v s).2.1.length ≤ max l.length 65537 := by
  unfold labelV
  cases noLab l h v s with
  | true => simp
  | false =>
    have h1 := labelW_bd (startW l v) h s
    have h4 := endW_bd (labelW (startW l v) h s)
    have h5 : (startW l v).2.1.length = l.length := rfl
    simp only [cond_false]; omega
theorem walkV_bd (l : List Term.D) (v : Value.D) (sd : List Int) : (walkV l v sd).2.1.length ≤ max l.length 65537 := by
  unfold walkV
  cases noWalk l v sd with
  | true => simp
  | false =>
    have h1 := walkL_bd sd (startW l v)
    have h4 := endW_bd (walkL (startW l v) sd)
    have h5 : (startW l v).2.1.length = l.length := rfl
    simp only [cond_false]; omega
theorem small_le {n : Nat} (h : n ≤ 1000000) : small24 n = true := decide_eq_true (by omega)
def mkV (l : List Term.D) (h k : Int) (m : Value.D) (s : Subset.D) : WS := bif s.2 == 0 then keyV l h k m s else labelV l h m s
theorem mkV_bd (l : List Term.D) (h k : Int) (m : Value.D) (s : Subset.D) : (mkV l h k m s).2.1.length ≤ max l.length 65537 := by
  unfold mkV
  cases s.2 == 0 with
  | true => exact keyV_bd _ _ _ _ _
  | false => exact labelV_bd _ _ _ _
/-- What the loop comes to: was it left; the terms; the entries; the error; where. -/
def mkR (h k : Int) (m : Value.D) (ps : List Subset.D) : Nat → Nat → List Term.D → List Entry.D → Int → Bool × List Term.D × List Entry.D × Int × Nat
  | 0, j, l, out, e => (false, l, out, e, j)
  | n + 1, j, l, out, e =>
    bif (mkV l h k m (sAt ps j)).2.2 != 0 then (true, (mkV l h k m (sAt ps j)).2.1, set2 (set1 out j (sAt ps j)) j (mkV l h k m (sAt ps j)).1, (mkV l h k m (sAt ps j)).2.2, j)
    else mkR h k m ps n (j + 1) (mkV l h k m (sAt ps j)).2.1 (set2 (set1 out j (sAt ps j)) j (mkV l h k m (sAt ps j)).1) (mkV l h k m (sAt ps j)).2.2
def finR (h k : Int) (m : Value.D) (r : Int) (ps : List Subset.D) (n : Int) (K : AE → List AV → Option AV) (x : Bool × List Term.D × List Entry.D × Int × Nat) : Option AV :=
  bif x.1 then K .ret (vs317 x.2.1 h k m x.2.2.2.1 x.2.2.2.1 x.2.2.1 ps n x.2.2.2.2) else K (.exit 0) (vs317 x.2.1 h k m r x.2.2.2.1 x.2.2.1 ps n n)
def Λ317 : Lam AV := fun cur vs K =>
  match cur, vs with
  | 0, [.one (.sl true (.pair (.int .i64) (.pair (.int .i64) (.int .i64))) none l), .one (.int .i64 h), .one (.int .i64 k), .own cs, .one .nils, .one .nils, .one (.int .i64 r), .one (.int .i64 e), .arr true (.pair (.pair (.int .u64) (.int .u64)) (.pair .bool (.pair .bool (.pair (.pair (.int .u64) (.int .u64)) (.pair (.pair (.pair (.int .u64) (.int .u64)) (.pair (.int .u64) (.int .u64))) (.int .i64)))))) out,
      .one (.sl true (.pair (.int .u64) (.int .u64)) none ps), .one (.int .i64 n), .one (.int .i64 0)] =>
    (match unV (.agg cs) with
    | some m => bif decide (n = ps.length) && decide (out.length = ps.length) && decide (l.length ≤ 1000000) && decide (n ≤ 9223372036854775807) then finR h k m r ps n K (mkR h k m ps n.toNat 0 l out e) else none
    | none => none)
  | _, _ => none
theorem set_len1 (out : List Entry.D) (i : Int) (s : Subset.D) : (set1 out i s).length = out.length := by unfold set1; simp
theorem set_len2 (out : List Entry.D) (i : Int) (v : Value.D) : (set2 out i v).length = out.length := by unfold set2; simp
theorem own_eq {cs : List SV} {m : Value.D} (h : unV (.agg cs) = some m) : AV.own cs = .own (enc Value false m) := by
  have := unV_eq h
  have e : cs = enc Value false m := by injection this
  rw [e]
def rEs (out : List Entry.D) (l : List Term.D) (e : Int) : AV := .tup [(false, [.sl true Entry none out]), (false, [.sl true Term none l]), (false, [.int .i64 e])]
@[reducible] def M5 : List AK := [.v (.sl Term), .v I, .v I, .v Value, .v U]
def noMk (l : List Term.D) (h k : Int) (m : Value.D) (i : Int) : Bool := bif (pairsL h k i).2 != 0 then true else (walkV l m []).2.2 != 0
def mkX (l : List Term.D) (h k : Int) (m : Value.D) (i : Int) : Bool × List Term.D × List Entry.D × Int × Nat :=
  mkR h k m (pairsL h k i).1 ((pairsL h k i).1.length : Int).toNat 0 (walkV l m []).2.1 (List.replicate ((pairsL h k i).1.length : Int).toNat Entry.dflt) (pairsL h k i).2
def endR (x : Bool × List Term.D × List Entry.D × Int × Nat) : Option AV := bif x.1 then some (rEs [] [] x.2.2.2.1) else some (rEs x.2.2.1 x.2.1 0)
def c317 (l : List Term.D) (ps : List Subset.D) : Bool := decide ((ps.length : Int) = ps.length) && decide ((List.replicate (ps.length : Int).toNat Entry.dflt).length = ps.length) && decide (l.length ≤ 1000000) && decide ((ps.length : Int) ≤ 9223372036854775807)
theorem outG_bd (h k leaf : Int) : ∀ (m t : Nat) (out : List Subset.D), (outG h k leaf m t out).length ≤ out.length + m * h.toNat := by
  intro m
  induction m with
  | zero => intro t out; simp [outG]
  | succ m ih =>
    intro t out
    refine Nat.le_trans (ih _ _) ?_
    have := inG_len h k leaf t (h.toNat - t) (t + 1) out
    rw [Nat.succ_mul]
    omega
theorem wG_bd (h leaf : Int) : ∀ (m j : Nat) (out : List Subset.D), (wG h leaf m j out).length = out.length + m := by
  intro m
  induction m with
  | zero => intro j out; rfl
  | succ m ih => intro j out; rw [wG, ih]; simp; omega
theorem pairs_bd (h k i : Int) : (pairsL h k i).1.length ≤ 2000 := by
  unfold pairsL
  cases hn : noPr h k i with
  | true => exact Nat.zero_le _
  | false =>
    obtain ⟨h1, h2, _⟩ := many_ok (noPr_ok hn).1
    cases k == 1 with
    | true =>
      show (wG h (leafI h i).1 (h.toNat + 1) 0 []).length ≤ _
      rw [wG_bd]
      have : h.toNat ≤ 32 := by omega
      simp; omega
    | false =>
      refine Nat.le_trans (outG_bd _ _ _ _ _ _) ?_
      have : h.toNat * h.toNat ≤ 32 * 32 := Nat.mul_le_mul (by omega) (by omega)
      simp; omega
def makeV (l : List Term.D) (h k : Int) (m : Value.D) (i : Int) : List Entry.D × List Term.D × Int :=
  bif noMk l h k m i then ([], [], 1) else bif (mkX l h k m i).1 then ([], [], (mkX l h k m i).2.2.2.1) else ((mkX l h k m i).2.2.1, (mkX l h k m i).2.1, 0)
def rE (x : List Entry.D × List Term.D × Int) : AV := rEs x.1 x.2.1 x.2.2
def s317 : Sp := .fn M5 fun x => (decide (x.1.length ≤ 1000000), rE (makeV x.1 x.2.1 x.2.2.1 x.2.2.2.1 x.2.2.2.2))

/-- The term to which a way (its last step first) leads from the term at t0. -/
def At (l : List Term.D) (t0 : Nat) : List Int → Nat → Prop
  | [], t => t = t0 ∧ ∃ x : Term.D, l[t0]? = some x ∧ x.1 ≠ 5
  | i :: p, t => ∃ u : Nat, At l t0 p u ∧ l[t]? = some (2 + i, (u : Int), 0)
def In02 (p : List Int) : Prop := ∀ x ∈ p, 0 ≤ x ∧ x ≤ 2
theorem At.mono {l : List Term.D} {t0 : Nat} (r : List Term.D) : ∀ {p : List Int} {t : Nat}, At l t0 p t → At (l ++ r) t0 p t := by
  have up : ∀ {t : Nat} {x : Term.D}, l[t]? = some x → (l ++ r)[t]? = some x := fun {t x} h => by
    have := (List.getElem?_eq_some_iff.1 h).1
    rw [List.getElem?_append_left this]; exact h
  intro p
  induction p with
  | nil => rintro t ⟨h1, x, h2, h3⟩; exact ⟨h1, x, up h2, h3⟩
  | cons i p ih => rintro t ⟨u, h1, h2⟩; exact ⟨u, ih h1, up h2⟩
theorem At.get {l : List Term.D} {t0 : Nat} {p : List Int} {t : Nat} (h : At l t0 p t) (hp : In02 p) : ∃ x : Term.D, l[t]? = some x ∧ x.1 ≠ 5 := by
  cases p with
  | nil => obtain ⟨rfl, x, h1, h2⟩ := h; exact ⟨x, h1, h2⟩
  | cons i p =>
    obtain ⟨u, _, h2⟩ := h
    have := hp i (by simp)
    exact ⟨_, h2, by show 2 + i ≠ 5; omega⟩
theorem At.uniq {l : List Term.D} (hg : GoodL l) {t0 : Nat} : ∀ {p : List Int} {t t' : Nat}, At l t0 p t → At l t0 p t' → t = t' := by
  intro p
  induction p with
  | nil => rintro t t' ⟨rfl, _⟩ ⟨rfl, _⟩; rfl
  | cons i p ih =>
    rintro t t' ⟨u, h1, h2⟩ ⟨u', h1', h2'⟩
    obtain rfl := ih h1 h1'
    exact hg.uniq h2 h2'
def foldW (b : Block.D) : List Int → Block.D
  | [] => b
  | i :: p => (partR (foldW b p) i).1
/-- What stands for a way. -/
def Std (sym : Bool) (b : Block.D) (t0 : Nat) (l : List Term.D) (p : List Int) (v : Value.D) : Prop :=
  match sym with
  | true => ∃ t : Nat, v = symV t ∧ At l t0 p t
  | false => v = octV (foldW b p)
structure Den (sym : Bool) (b : Block.D) (t0 : Nat) (l : List Term.D) (p : List Int) (v : Value.D) : Prop where
  good : GoodL l
  way : In02 p
  std : Std sym b t0 l p v
section
variable {sym : Bool} {b : Block.D} {t0 : Nat} {l : List Term.D} {p : List Int} {v w : Value.D}
theorem Den.mono (h : Den sym b t0 l p v) {r : List Term.D} (hg : GoodL (l ++ r)) : Den sym b t0 (l ++ r) p v := by
  obtain ⟨h1, h2, h3⟩ := h
  refine ⟨hg, h2, ?_⟩
  cases sym with
  | true => obtain ⟨t, e, h⟩ := h3; exact ⟨t, e, h.mono r⟩
  | false => exact h3
theorem Den.uniq (h : Den sym b t0 l p v) (h' : Den sym b t0 l p w) : v = w := by
  obtain ⟨h1, h2, h3⟩ := h
  obtain ⟨_, _, h3'⟩ := h'
  cases sym with
  | true => obtain ⟨t, e, h⟩ := h3; obtain ⟨t', e', h'⟩ := h3'; rw [e, e', h.uniq h1 h']
  | false => exact (show v = _ from h3).trans (show w = _ from h3').symm
theorem Den.facts (h : Den sym b t0 l p v) : checkV l v = 0 ∧ ownV l v = false ∧ v.2.1 = false ∧ v.1 = sym ∧ (sym = true → ((tAt l v.2.2.2.2).1 == 5) = false) := by
  obtain ⟨h1, h2, h3⟩ := h
  cases sym with
  | true =>
    obtain ⟨t, rfl, h⟩ := h3
    obtain ⟨x, g1, g2⟩ := h.get h2
    have hlt := (List.getElem?_eq_some_iff.1 g1).1
    have hk : ((tAt l (t : Int)).1 == 5) = false := by rw [tAt_get g1]; simpa using g2
    exact ⟨check_sym h1 (by omega) (by omega), hk, rfl, rfl, fun _ => hk⟩
  | false =>
    obtain rfl : v = octV (foldW b p) := h3
    exact ⟨check_oct h1 _, rfl, rfl, rfl, fun h => by cases h⟩
theorem Den.start (h : Den sym b t0 l p v) : startW l v = (v, l, 0) := by
  obtain ⟨h1, h2, h3, h4, h5⟩ := h.facts
  unfold startW startE b51
  rw [h1, h3, h4]
  cases sym with
  | true => rw [h5 rfl]; rfl
  | false => rfl
theorem Den.open (h : Den sym b t0 l p v) : openV l v = true := by
  obtain ⟨h1, h2, h3, h4, h5⟩ := h.facts
  unfold openV
  rw [h1, h3, h4]
  cases sym with
  | true => unfold bne; rw [h5 rfl]; rfl
  | false => rfl
/-- One step on. -/
theorem Den.step (h : Den sym b t0 l p v) (hl : l.length < 65536) {i : Int} (h0 : 0 ≤ i) (h2 : i ≤ 2) : ∃ v' r, partV l v i = (v', l ++ r, 0) ∧ r.length ≤ 1 ∧ Den sym b t0 (l ++ r) (i :: p) v' := by
  obtain ⟨f1, f2, f3, f4, f5⟩ := h.facts
  obtain ⟨g1, g2, g3⟩ := h
  have hp : In02 (i :: p) := fun x hx => (List.mem_cons.1 hx).elim (fun e => e ▸ ⟨h0, h2⟩) (g2 x)
  have he := partV_may hl f1 f2 h0 h2
  have hb := partBad_false.2 ⟨f1, f2, h0, h2⟩
  unfold partV at he ⊢
  rw [hb] at he ⊢
  simp only [cond_false] at he ⊢
  cases sym with
  | true =>
    obtain ⟨t, rfl, ha⟩ := g3
    have e1 : (symV (t : Int)).1 = true := rfl
    have e2 : IntKind.i64.wrap (2 + i) = 2 + i := wrap64 (by omega) (by omega)
    rw [e1, e2] at he ⊢
    simp only [cond_true] at he ⊢
    obtain ⟨j, r, m1, m2, m3, m4, m5⟩ := madeV_ok he
    have hlen := madeV_len l (2 + i, (t : Int), 0)
    have m1' : madeV l (2 + i, (t : Int), 0) = (symV j, l ++ r, 0) := m1
    rw [m1'] at hlen
    refine ⟨symV j, r, m1, by simpa using hlen, m3, hp, j, rfl, t, ha.mono r, m4⟩
  | false =>
    obtain rfl : v = octV (foldW b p) := g3
    have e1 : (octV (foldW b p)).1 = false := rfl
    rw [e1] at he ⊢
    simp only [cond_false] at he ⊢
    refine ⟨_, [], by rw [List.append_nil, he]; rfl, by simp, by rw [List.append_nil]; exact g1, hp, rfl⟩
/-- A way on. -/
theorem Den.walk : ∀ (sd : List Int) {l : List Term.D} {p : List Int} {v : Value.D}, Den sym b t0 l p v → In02 sd → l.length + sd.length ≤ 65536 →
    ∃ v' r, walkL (v, l, 0) sd = (v', l ++ r, 0) ∧ r.length ≤ sd.length ∧ Den sym b t0 (l ++ r) (sd.reverse ++ p) v' := by
  intro sd
  induction sd with
  | nil => intro l p v h _ _; exact ⟨v, [], by rw [List.append_nil]; rfl, by simp, by rw [List.append_nil]; exact h⟩
  | cons i sd ih =>
    intro l p v h hs hl
    rw [List.length_cons] at hl
    obtain ⟨i0, i2⟩ := hs i (by simp)
    obtain ⟨v1, r1, a1, a2, a3⟩ := h.step (by omega) i0 i2
    obtain ⟨v2, r2, b1, b2, b3⟩ := ih a3 (fun x hx => hs x (by simp [hx])) (by rw [List.length_append]; omega)
    refine ⟨v2, r1 ++ r2, ?_, by rw [List.length_append, List.length_cons]; omega, by rw [List.reverse_cons, List.append_assoc, ← List.append_assoc l]; exact b3⟩
    rw [walkL, ← List.append_assoc, ← b1]
    congr 1
end
theorem bitI_01 (b j : Int) : 0 ≤ bitI b j ∧ bitI b j ≤ 1 := by
  unfold bitI
  have e2 : (BitVec.ofInt 64 (1 : Int)).toNat = 1 := by decide
  rw [BitVec.toNat_and, e2, Nat.and_one_is_mod, wrapU (by omega) (by omega), wrap64 (by omega) (by omega)]
  omega
theorem setG_01 (b : Int) (n : Nat) : ∀ (m j : Nat) (l : List Int), (∀ x ∈ l, 0 ≤ x ∧ x ≤ 1) → ∀ x ∈ setG b n m j l, 0 ≤ x ∧ x ≤ 1 := by
  intro m
  induction m with
  | zero => intro j l h; exact h
  | succ m ih =>
    intro j l h
    refine ih (j + 1) _ fun x hx => ?_
    rcases List.mem_or_eq_of_mem_set hx with hx | rfl
    · exact h x hx
    · exact bitI_01 b j
theorem path_01 (h a b : Int) : ∀ x ∈ (pathI h a b).1, 0 ≤ x ∧ x ≤ 1 := by
  unfold pathI
  cases bothI h a b != 0 with
  | true => intro x hx; cases hx
  | false =>
    cases aboveB a b with
    | false => intro x hx; cases hx
    | true =>
      refine setG_01 _ _ _ _ _ fun x hx => ?_
      rw [(List.mem_replicate.1 hx).2]; omega
theorem path_02 (h a b : Int) : In02 (pathI h a b).1 := fun x hx => by have := path_01 h a b x hx; omega
theorem path_lenH (h a b : Int) : (pathI h a b).1.length ≤ h.toNat := by
  unfold pathI
  cases hb : bothI h a b != 0 with
  | true => exact Nat.zero_le _
  | false =>
    cases ha : aboveB a b with
    | false => exact Nat.zero_le _
    | true =>
      show (setG b (pathN a b).toNat (pathN a b).toNat 0 (List.replicate (pathN a b).toNat 0)).length ≤ _
      rw [setG_len, List.length_replicate]
      have h2 : (chkI h a != 0) = false ∧ (chkI h b != 0) = false := by
        unfold bothI both at hb
        cases h1 : chkI h a != 0 with
        | true => rw [h1] at hb; exact absurd (show true = false from hb) (by decide)
        | false =>
          cases h2 : chkI h b != 0 with
          | true => rw [h1, h2] at hb; exact absurd (show true = false from hb) (by decide)
          | false => exact ⟨rfl, rfl⟩
      obtain ⟨c1, c2, c3⟩ := chk_zero h2.2
      obtain ⟨d1, d2, d3⟩ := chk_zero h2.1
      have e : 0 ≤ depI a := by rw [dep_nat d2]; omega
      unfold pathN
      omega
theorem walkL_err : ∀ (sd : List Int) {x : WS}, x.2.2 ≠ 0 → walkL x sd = x := by
  intro sd
  induction sd with
  | nil => intro x _; rfl
  | cons i sd ih =>
    intro x h
    have : stepW x i = x := by unfold stepW; rw [show (x.2.2 == 0) = false by simpa using h]; rfl
    rw [walkL, this]; exact ih h
theorem walkL_app : ∀ (a c : List Int) (x : WS), walkL x (a ++ c) = walkL (walkL x a) c := by
  intro a
  induction a with
  | nil => intro c x; rfl
  | cons i a ih => intro c x; exact ih c _
theorem pathW_ok {x : WS} {h a b : Int} (he : (pathI h a b).2 = 0) : pathW x h a b = walkL x (pathI h a b).1 := by
  unfold pathW
  cases hx : x.2.2 == 0 with
  | true =>
    rw [he]
    have : x = (x.1, x.2.1, (0 : Int)) := by rw [← eq_of_beq hx]
    rw [cond_true, ← this]
  | false => rfl
theorem pathW_err {x : WS} {h a b : Int} (hx : x.2.2 = 0) (he : (pathW x h a b).2.2 = 0) : (pathI h a b).2 = 0 := by
  unfold pathW at he
  rw [hx] at he
  simp only [beq_self_eq_true, cond_true] at he
  rcases Classical.em ((pathI h a b).2 = 0) with h0 | h0
  · exact h0
  · rw [walkL_err _ (show (x.1, x.2.1, (pathI h a b).2).2.2 ≠ 0 from h0)] at he
    exact he
theorem pathW_stay {x : WS} {h a b : Int} (hx : x.2.2 ≠ 0) : pathW x h a b = x := by
  unfold pathW
  rw [show (x.2.2 == 0) = false by simpa using hx]
  exact walkL_err _ hx
theorem stepW_stay {x : WS} {i : Int} (hx : x.2.2 ≠ 0) : stepW x i = x := by
  unfold stepW; rw [show (x.2.2 == 0) = false by simpa using hx]; rfl
/-- A label's way. -/
def labP (h : Int) (s : Subset.D) : List Int := (pathI h 1 s.1).1 ++ [2] ++ bif s.2 != 0 then (pathI h s.1 s.2).1 else []
theorem labelW_ok {x : WS} {h : Int} {s : Subset.D} (h1 : (pathI h 1 s.1).2 = 0) (h2 : s.2 ≠ 0 → (pathI h s.1 s.2).2 = 0) : labelW x h s = walkL x (labP h s) := by
  unfold labelW labP
  rw [pathW_ok h1]
  cases hs : s.2 != 0 with
  | true =>
    simp only [cond_true]
    rw [pathW_ok (h2 (by simpa using hs)), walkL_app, walkL_app]; rfl
  | false =>
    simp only [cond_false]
    rw [List.append_nil, walkL_app]; rfl
theorem labelW_err {x : WS} {h : Int} {s : Subset.D} (hx : x.2.2 = 0) (he : (labelW x h s).2.2 = 0) : (pathI h 1 s.1).2 = 0 ∧ (s.2 ≠ 0 → (pathI h s.1 s.2).2 = 0) := by
  unfold labelW at he
  have k1 : (stepW (pathW x h 1 s.1) 2).2.2 = 0 := by
    rcases Classical.em ((stepW (pathW x h 1 s.1) 2).2.2 = 0) with h0 | h0
    · exact h0
    · cases hs : s.2 != 0 with
      | true => rw [hs, cond_true, pathW_stay h0] at he; exact he
      | false => rw [hs] at he; exact he
  have k2 : (pathW x h 1 s.1).2.2 = 0 := by
    rcases Classical.em ((pathW x h 1 s.1).2.2 = 0) with h0 | h0
    · exact h0
    · rw [stepW_stay h0] at k1; exact k1
  refine ⟨pathW_err hx k2, fun hs => ?_⟩
  rw [show (s.2 != 0) = true by simpa using hs, cond_true] at he
  exact pathW_err k1 he
theorem endW_err {x : WS} (he : (endW x).2.2 = 0) : x.2.2 = 0 ∧ endW x = x := by
  unfold endW at he ⊢
  cases hx : x.2.2 != 0 with
  | true => rw [hx] at he; simp only [cond_true] at he; exact absurd he (by simpa using hx)
  | false =>
    have : x.2.2 = 0 := by simpa using hx
    exact ⟨this, by rw [← this]; rfl⟩
theorem endW_zero {x : WS} (h : x.2.2 = 0) : endW x = x := by
  unfold endW
  rw [show (x.2.2 != 0) = false by simpa using h, ← h]; rfl
/-- A key's way. -/
def keyP (h k : Int) (s : Subset.D) : List Int := labP h s ++ bif k != 1 then [2] else []
theorem keyP_02 (h k : Int) (s : Subset.D) : In02 (keyP h k s) := by
  intro x hx
  unfold keyP labP at hx
  rcases List.mem_append.1 hx with hx | hx
  · rcases List.mem_append.1 hx with hx | hx
    · rcases List.mem_append.1 hx with hx | hx
      · exact path_02 _ _ _ x hx
      · rw [List.mem_singleton.1 hx]; omega
    · cases hs : s.2 != 0 with
      | true => rw [hs] at hx; exact path_02 _ _ _ x hx
      | false => rw [hs] at hx; cases hx
  · cases hk : k != 1 with
    | true => rw [hk] at hx; rw [List.mem_singleton.1 hx]; omega
    | false => rw [hk] at hx; cases hx
theorem labP_02 (h : Int) (s : Subset.D) : In02 (labP h s) := fun x hx => keyP_02 h 1 s x (by unfold keyP; exact List.mem_append_left _ hx)
theorem labP_len (h : Int) (s : Subset.D) : (labP h s).length ≤ 2 * h.toNat + 1 := by
  have h1 := path_lenH h 1 s.1
  have h2 := path_lenH h s.1 s.2
  unfold labP
  cases s.2 != 0 <;> simp <;> omega
theorem keyP_len (h k : Int) (s : Subset.D) : (keyP h k s).length ≤ 2 * h.toNat + 2 := by
  have h1 := labP_len h s
  unfold keyP
  cases k != 1 <;> simp <;> omega
def mkP (h k : Int) (s : Subset.D) : List Int := bif s.2 == 0 then keyP h k s else labP h s
section
variable {sym : Bool} {b : Block.D} {t0 : Nat} {l : List Term.D} {m : Value.D}
/-- A key of what may be. -/
theorem keyV_run {h k : Int} {s : Subset.D} (hd : Den sym b t0 l [] m) (hl : l.length + (2 * h.toNat + 2) ≤ 65536) (hn : noKey l h k m s = false) (h1 : (pathI h 1 s.1).2 = 0) (h2 : s.2 ≠ 0 → (pathI h s.1 s.2).2 = 0) :
    ∃ v r, keyV l h k m s = (v, l ++ r, 0) ∧ r.length ≤ 2 * h.toNat + 2 ∧ Den sym b t0 (l ++ r) (keyP h k s).reverse v := by
  have hk := keyP_len h k s
  obtain ⟨v, r, a1, a2, a3⟩ := hd.walk (keyP h k s) (keyP_02 h k s) (by omega)
  refine ⟨v, r, ?_, by omega, by rw [List.append_nil] at a3; exact a3⟩
  unfold keyV
  rw [hn, hd.start, labelW_ok h1 h2]
  have e : (bif k != 1 then endW (stepW (walkL (m, l, 0) (labP h s)) 2) else endW (walkL (m, l, 0) (labP h s))) = endW (walkL (m, l, 0) (keyP h k s)) := by
    unfold keyP
    rw [walkL_app]
    cases k != 1 <;> rfl
  rw [cond_false, e, a1]
  rfl
theorem noKey_err {h k : Int} {s : Subset.D} (he : (keyV l h k m s).2.2 = 0) : noKey l h k m s = false := by
  cases hn : noKey l h k m s with
  | false => rfl
  | true => unfold keyV at he; rw [hn] at he; exact absurd (show (1 : Int) = 0 from he) (by decide)
theorem keyV_err {h k : Int} {s : Subset.D} (hd : Den sym b t0 l [] m) (he : (keyV l h k m s).2.2 = 0) : (pathI h 1 s.1).2 = 0 ∧ (s.2 ≠ 0 → (pathI h s.1 s.2).2 = 0) := by
  have hn := noKey_err he
  unfold keyV at he
  rw [hn, hd.start, cond_false] at he
  refine labelW_err (x := (m, l, 0)) rfl ?_
  cases hk : k != 1 with
  | false => rw [hk] at he; exact (endW_err he).1
  | true =>
    rw [hk, cond_true] at he
    have h1 := (endW_err he).1
    rcases Classical.em ((labelW (m, l, 0) h s).2.2 = 0) with h0 | h0
    · exact h0
    · rw [stepW_stay h0] at h1; exact h1
theorem labelV_run {h : Int} {s : Subset.D} (hd : Den sym b t0 l [] m) (hl : l.length + (2 * h.toNat + 2) ≤ 65536) (hn : noLab l h m s = false) (h1 : (pathI h 1 s.1).2 = 0) (h2 : s.2 ≠ 0 → (pathI h s.1 s.2).2 = 0) :
    ∃ v r, labelV l h m s = (v, l ++ r, 0) ∧ r.length ≤ 2 * h.toNat + 2 ∧ Den sym b t0 (l ++ r) (labP h s).reverse v := by
  have hk := labP_len h s
  obtain ⟨v, r, a1, a2, a3⟩ := hd.walk (labP h s) (labP_02 h s) (by omega)
  refine ⟨v, r, ?_, by omega, by rw [List.append_nil] at a3; exact a3⟩
  unfold labelV
  rw [hn, hd.start, labelW_ok h1 h2, cond_false, a1]
  rfl
theorem labelV_err {h : Int} {s : Subset.D} (hd : Den sym b t0 l [] m) (he : (labelV l h m s).2.2 = 0) : noLab l h m s = false ∧ (pathI h 1 s.1).2 = 0 ∧ (s.2 ≠ 0 → (pathI h s.1 s.2).2 = 0) := by
  have hn : noLab l h m s = false := by
    cases hn : noLab l h m s with
    | false => rfl
    | true => unfold labelV at he; rw [hn] at he; exact absurd (show (1 : Int) = 0 from he) (by decide)
  refine ⟨hn, ?_⟩
  unfold labelV at he
  rw [hn, hd.start, cond_false] at he
  exact labelW_err (x := (m, l, 0)) rfl (endW_err he).1
theorem mkV_run {h k : Int} {s : Subset.D} (hd : Den sym b t0 l [] m) (hl : l.length + (2 * h.toNat + 2) ≤ 65536) (he : (mkV l h k m s).2.2 = 0) :
    ∃ v r, mkV l h k m s = (v, l ++ r, 0) ∧ r.length ≤ 2 * h.toNat + 2 ∧ Den sym b t0 (l ++ r) (mkP h k s).reverse v := by
  unfold mkV at he ⊢
  unfold mkP
  cases hs : s.2 == 0 with
  | true =>
    rw [hs] at he
    obtain ⟨e1, e2⟩ := keyV_err hd he
    exact keyV_run hd hl (noKey_err he) e1 e2
  | false =>
    rw [hs] at he
    obtain ⟨e0, e1, e2⟩ := labelV_err hd he
    exact labelV_run hd hl e0 e1 e2
def Made (sym : Bool) (b : Block.D) (t0 : Nat) (l : List Term.D) (h k : Int) (ps : List Subset.D) (es : List Entry.D) (n : Nat) : Prop :=
  es.length = ps.length ∧ ∀ q : Nat, q < n → ∃ v, eAt' es q = (sAt ps q, v) ∧ Den sym b t0 l (mkP h k (sAt ps q)).reverse v
where eAt' (es : List Entry.D) (i : Nat) : Entry.D := es.getD i Entry.dflt
theorem Made.next {r : List Term.D} {h k : Int} {ps : List Subset.D} {es : List Entry.D} {j : Nat} (hm : Made sym b t0 l h k ps es j) (hj : j < ps.length) {v : Value.D} (hd : Den sym b t0 (l ++ r) (mkP h k (sAt ps j)).reverse v) :
    Made sym b t0 (l ++ r) h k ps (set2 (set1 es j (sAt ps j)) j v) (j + 1) := by
  obtain ⟨h1, h2⟩ := hm
  refine ⟨by rw [set_len2, set_len1]; exact h1, fun q hq => ?_⟩
  unfold Made.eAt' set2 set1
  rw [Int.toNat_natCast]
  rcases Nat.lt_or_eq_of_le (Nat.le_of_lt_succ hq) with hlt | rfl
  · obtain ⟨w, e, hw⟩ := h2 q hlt
    refine ⟨w, ?_, hw.mono hd.good⟩
    unfold Made.eAt' at e
    rw [← e]
    simp only [List.getD_eq_getElem?_getD]
    rw [List.getElem?_set_ne (by omega), List.getElem?_set_ne (by omega)]
  · refine ⟨v, ?_, hd⟩
    simp only [List.getD_eq_getElem?_getD]
    rw [List.getElem?_set_self (by rw [List.length_set]; omega), List.getElem?_set_self (by omega)]
    rfl
theorem mkR_run {h k : Int} {ps : List Subset.D} : ∀ (n j : Nat) (l : List Term.D) (es : List Entry.D) (e : Int), Den sym b t0 l [] m → l.length + n * (2 * h.toNat + 2) ≤ 65536 → j + n = ps.length → Made sym b t0 l h k ps es j →
    (mkR h k m ps n j l es e).1 = false → ∃ r, (mkR h k m ps n j l es e).2.1 = l ++ r ∧ r.length ≤ n * (2 * h.toNat + 2) ∧ GoodL (l ++ r) ∧ Made sym b t0 (l ++ r) h k ps (mkR h k m ps n j l es e).2.2.1 ps.length := by
  intro n
  induction n with
  | zero =>
    intro j l es e hd hl hj hm _
    refine ⟨[], by rw [List.append_nil]; rfl, Nat.zero_le _, by rw [List.append_nil]; exact hd.good, ?_⟩
    rw [List.append_nil, ← hj]; exact hm
  | succ n ih =>
    intro j l es e hd hl hj hm hf
    rw [Nat.succ_mul] at hl
    rw [mkR] at hf ⊢
    cases hx : (mkV l h k m (sAt ps j)).2.2 != 0 with
    | true => rw [hx] at hf; cases hf
    | false =>
      rw [hx, cond_false] at hf
      rw [cond_false]
      obtain ⟨v, r1, a1, a2, a3⟩ := mkV_run (h := h) (k := k) (s := sAt ps j) hd (by omega) (by simpa using hx)
      rw [a1] at hf ⊢
      dsimp only at hf ⊢
      generalize 2 * h.toNat + 2 = c at *
      obtain ⟨r2, c1, c2, c3, c4⟩ := ih (j + 1) (l ++ r1) (set2 (set1 es j (sAt ps j)) j v) 0 (hd.mono a3.good) (by rw [List.length_append]; omega) (by omega) (hm.next (by omega) a3) hf
      refine ⟨r1 ++ r2, by rw [← List.append_assoc]; exact c1, by rw [List.length_append, Nat.succ_mul]; omega, by rw [← List.append_assoc]; exact c3, by rw [← List.append_assoc]; exact c4⟩
end
end Go.AM.Seat
