/- The seat: contracts: how long a number is; nodes. -/
import Derived.Test.YtoeijiackpanoaaSeG
import Derived.Test.YtoeijiackpanoaaPlNode
set_option linter.unusedVariables false
set_option maxRecDepth 100000
namespace Go.AM.Seat
open Go Go.AM Go.Proofs

/-! ### bits.Len64 -/
def shrI (a k : Int) : Int := a.fdiv (2 ^ min k.toNat 64)
def shlI (a k : Int) : Int := IntKind.u64.wrap (a * 2 ^ min k.toNat 64)
def lenI (n : Int) : Int := bif decide (n ≤ 0) then 0 else (n.toNat.log2 : Int) + 1
def lenTab : ByteArray := ⟨((List.range 256).map fun i : Nat => UInt8.ofNat (lenI (i : Int)).toNat).toArray⟩
def lenR4 (n k : Int) : Option AV := bif inB (IntKind.u8.wrap n) lenTab.size then some (.one (.int .i64 (IntKind.i64.wrap (k + IntKind.i64.wrap (byteAt lenTab (IntKind.u8.wrap n).toNat))))) else none
def lenR3 (n k : Int) : Option AV := bif decide (n ≥ 256) then lenR4 (shrI n 8) (IntKind.i64.wrap (k + 8)) else lenR4 n k
def lenR2 (n k : Int) : Option AV := bif decide (n ≥ 65536) then lenR3 (shrI n 16) (IntKind.i64.wrap (k + 16)) else lenR3 n k
def lenR (n : Int) : Option AV := bif decide (n ≥ 4294967296) then lenR2 (shrI n 32) 32 else lenR2 n 0
theorem r119 (n : Int) : run (orc []) noL [] F119 (encA [.v U] n) [] = lenR n := by kernel_rfl
theorem lenTab_at : ((List.range 256).all fun i : Nat => decide (byteAt lenTab i = lenI (i : Int))) = true := by kernel_rfl
theorem lenTab_size : lenTab.size = 256 := by kernel_rfl
theorem shr_nat {a : Int} (h : 0 ≤ a) {k : Int} (hk : k ≤ 64) : shrI a k = ((a.toNat / 2 ^ k.toNat : Nat) : Int) := by
  unfold shrI
  rw [Int.fdiv_eq_ediv_of_nonneg _ (by apply Int.le_of_lt; exact Int.pow_pos (by decide)), Nat.min_eq_left (by omega)]
  obtain ⟨n, rfl⟩ := Int.eq_ofNat_of_zero_le h
  simp
theorem lenI_nat {n : Nat} (h : n ≠ 0) : lenI n = (n.log2 : Int) + 1 := by
  unfold lenI
  have : decide ((n : Int) ≤ 0) = false := by simp; omega
  rw [this]; rfl
theorem lenI_zero : lenI 0 = 0 := rfl
theorem lenI_div {n k : Nat} (h : 2 ^ k ≤ n) : lenI n = (k : Int) + lenI (n / 2 ^ k : Nat) := by
  have h0 : n ≠ 0 := by have := Nat.two_pow_pos k; omega
  have hk : k ≤ n.log2 := by
    rcases Nat.lt_or_ge n.log2 k with h1 | h1
    · have := (Nat.log2_lt h0).1 h1; omega
    · exact h1
  rw [lenI_nat h0, lenI_nat (div_pos h0 hk), log2_div h0 hk]; omega
theorem lenI_bd {n : Nat} {k : Nat} (h : n < 2 ^ k) : 0 ≤ lenI n ∧ lenI n ≤ k := by
  rcases Nat.eq_zero_or_pos n with rfl | h0
  · exact ⟨by decide, by show (0 : Int) ≤ k; omega⟩
  · rw [lenI_nat (by omega)]
    have := (Nat.log2_lt (show n ≠ 0 by omega)).2 h
    omega
theorem lenR4_ok {n : Nat} {k : Int} (hn : n < 256) (h0 : 0 ≤ k) (h1 : k ≤ 64) : lenR4 n k = some (.one (.int .i64 (k + lenI n))) := by
  have hw : IntKind.u8.wrap (n : Int) = n := by unfold IntKind.wrap; simp [IntKind.signed, IntKind.bits]; omega
  have ht := List.all_eq_true.1 lenTab_at n (List.mem_range.2 hn)
  have hb := lenI_bd (k := 8) (n := n) hn
  unfold lenR4
  rw [hw, lenTab_size, inB_lt hn, Int.toNat_natCast, of_decide_eq_true ht, wrap64 (n := lenI n) (by omega) (by omega), wrap64 (by omega) (by omega)]
  rfl
theorem lenR3_ok {n : Nat} {k : Int} (hn : n < 2 ^ 16) (h0 : 0 ≤ k) (h1 : k ≤ 48) : lenR3 n k = some (.one (.int .i64 (k + lenI n))) := by
  unfold lenR3
  cases h : decide ((n : Int) ≥ 256) with
  | true =>
    have h : 2 ^ 8 ≤ n := by have := of_decide_eq_true h; omega
    rw [shr_nat (by omega) (by decide), wrap64 (by omega) (by omega), lenI_div h]
    exact (lenR4_ok (k := k + 8) (n := n / 2 ^ 8) (by omega) (by omega) (by omega)).trans (by rw [Int.add_assoc]; rfl)
  | false => exact lenR4_ok (by have := of_decide_eq_false h; omega) h0 (by omega)
theorem lenR2_ok {n : Nat} {k : Int} (hn : n < 2 ^ 32) (h0 : 0 ≤ k) (h1 : k ≤ 32) : lenR2 n k = some (.one (.int .i64 (k + lenI n))) := by
  unfold lenR2
  cases h : decide ((n : Int) ≥ 65536) with
  | true =>
    have h : 2 ^ 16 ≤ n := by have := of_decide_eq_true h; omega
    rw [shr_nat (by omega) (by decide), wrap64 (by omega) (by omega), lenI_div h]
    exact (lenR3_ok (k := k + 16) (n := n / 2 ^ 16) (by omega) (by omega) (by omega)).trans (by rw [Int.add_assoc]; rfl)
  | false => exact lenR3_ok (by have := of_decide_eq_false h; omega) h0 (by omega)
theorem lenR_ok {n : Nat} (hn : n < 2 ^ 64) : lenR n = some (.one (.int .i64 (lenI n))) := by
  unfold lenR
  cases h : decide ((n : Int) ≥ 4294967296) with
  | true =>
    have h : 2 ^ 32 ≤ n := by have := of_decide_eq_true h; omega
    rw [shr_nat (by omega) (by decide), lenI_div h]
    exact lenR2_ok (k := 32) (n := n / 2 ^ 32) (by omega) (by omega) (by omega)
  | false => exact (lenR2_ok (n := n) (k := 0) (by have := of_decide_eq_false h; omega) (by decide) (by decide)).trans (by rw [Int.zero_add])
theorem hasU {n : Int} (h : IntKind.u64.has n) : 0 ≤ n ∧ n.toNat < 2 ^ 64 ∧ n = (n.toNat : Int) := by
  have h1 : 0 ≤ n := h.1
  have h2 : n ≤ 18446744073709551615 := h.2
  omega
def s119 : Sp := .fn [.v U] fun n => (true, .one (.int .i64 (lenI n)))
theorem g119 : GoodS Try.prog N119 s119 := by
  refine good (.nil _) H119 rfl (by kernel_rfl) noL [] (noLoops (by kernel_rfl)) [.v U] (by decide) [] _ fun n r hw h => ?_
  cases h
  obtain ⟨h0, h1, h2⟩ := hasU hw
  rw [r119, h2]
  exact lenR_ok h1

/-! ### node.high, depth, Check, both -/
def highB (h : Int) : Bool := bif decide (h ≥ 1) then decide (h ≤ 32) else false
theorem r360 (h : Int) : run (orc []) noL [] F360 (encA [.v I] h) [] = some (.one (.bool (highB h))) := by kernel_rfl
def s360 : Sp := .fn [.v I] fun h => (true, .one (.bool (highB h)))
theorem g360 : GoodS Try.prog N360 s360 := by
  refine good (.nil _) H360 rfl (by kernel_rfl) noL [] (noLoops (by kernel_rfl)) [.v I] (by decide) [] _ fun h r hw e => ?_
  cases e
  exact r360 h

def depI (n : Int) : Int := lenI n - 1
theorem r330 (n : Int) : run (orc [(N119, s119)]) noL [] F330 (encA [.v U] n) [] = some (.one (.int .i64 (IntKind.i64.wrap (lenI n - 1)))) := by kernel_rfl
theorem depI_bd {n : Int} (h : IntKind.u64.has n) : -1 ≤ depI n ∧ depI n ≤ 63 := by
  obtain ⟨h0, h1, h2⟩ := hasU h
  have := lenI_bd h1
  rw [← h2] at this
  unfold depI; omega
def s330 : Sp := .fn [.v U] fun n => (true, .one (.int .i64 (depI n)))
theorem g330 : GoodS Try.prog N330 s330 := by
  refine good (.cons g119 (.nil _)) H330 rfl (by kernel_rfl) noL [] (noLoops (by kernel_rfl)) [.v U] (by decide) [] _ fun n r hw e => ?_
  cases e
  have := depI_bd hw
  rw [r330, wrap64 (by unfold depI at this; omega) (by unfold depI at this; omega)]
  rfl

def badN (h n : Int) : Bool := bif bif !highB h then true else decide (n < 1) then true else decide (depI n > h)
def chkI (h n : Int) : Int := bif badN h n then 1 else 0
theorem r366 (h n : Int) : run (orc [(N360, s360), (N330, s330)]) noL [] F366 (encA [.v I, .v U] (h, n)) [] = bif badN h n then some (.one (.int .i64 1)) else some (.one (.int .i64 0)) := by kernel_rfl
def s366 : Sp := .fn [.v I, .v U] fun x => (true, .one (.int .i64 (chkI x.1 x.2)))
theorem g366 : GoodS Try.prog N366 s366 := by
  refine good (.cons g360 (.cons g330 (.nil _))) H366 rfl (by kernel_rfl) noL [] (noLoops (by kernel_rfl)) [.v I, .v U] (by decide) [] _ fun x r hw e => ?_
  cases e
  rw [r366]; unfold chkI
  cases badN x.1 x.2 <;> rfl

def both (h a b : Int) : Bool := bif chkI h a != 0 then true else chkI h b != 0
def bothI (h a b : Int) : Int := bif both h a b then 1 else 0
theorem r328 (h a b : Int) : run (orc [(N366, s366)]) noL [] F328 (encA [.v I, .v U, .v U] (h, a, b)) [] = bif both h a b then some (.one (.int .i64 1)) else some (.one (.int .i64 0)) := by kernel_rfl
def s328 : Sp := .fn [.v I, .v U, .v U] fun x => (true, .one (.int .i64 (bothI x.1 x.2.1 x.2.2)))
theorem g328 : GoodS Try.prog N328 s328 := by
  refine good (.cons g366 (.nil _)) H328 rfl (by kernel_rfl) noL [] (noLoops (by kernel_rfl)) [.v I, .v U, .v U] (by decide) [] _ fun x r hw e => ?_
  cases e
  rw [r328]; unfold bothI
  cases both x.1 x.2.1 x.2.2 <;> rfl


/-- Two results. -/
def re2 (v e : Int) : AV := .tup [(false, [.int .u64 v]), (false, [.int .i64 e])]
def ri2 (v e : Int) : AV := .tup [(false, [.int .i64 v]), (false, [.int .i64 e])]
def rb2 (v : Bool) (e : Int) : AV := .tup [(false, [.bool v]), (false, [.int .i64 e])]

/-! ### node.Leaf -/
def orU (a b : Int) : Int := IntKind.u64.wrap (BitVec.ofInt 64 a ||| BitVec.ofInt 64 b).toNat
def leafI (h i : Int) : Int × Int := bif !highB h then (0, 1) else bif decide (shrI i h > 0) then (0, 4) else (orU (shlI 1 h) i, 0)
theorem r323 (h i : Int) : run (orc [(N360, s360)]) noL [] F323 (encA [.v I, .v U] (h, i)) [] =
    bif !highB h then some (re2 0 1) else bif decide (0 ≤ h) then bif decide (shrI i h > 0) then some (re2 0 4) else bif decide (0 ≤ h) then some (re2 (orU (shlI 1 h) i) 0) else none else none := by kernel_rfl
theorem highB_iff {h : Int} : highB h = true ↔ 1 ≤ h ∧ h ≤ 32 := by
  unfold highB
  cases e : decide (h ≥ 1) with
  | true => have := of_decide_eq_true e; simp; omega
  | false => have := of_decide_eq_false e; simp; omega
theorem high0 {h : Int} (hh : highB h = true) : decide (0 ≤ h) = true := by have := highB_iff.1 hh; exact decide_eq_true (by omega)
def s323 : Sp := .fn [.v I, .v U] fun x => (true, re2 (leafI x.1 x.2).1 (leafI x.1 x.2).2)
theorem g323 : GoodS Try.prog N323 s323 := by
  refine good (.cons g360 (.nil _)) H323 rfl (by kernel_rfl) noL [] (noLoops (by kernel_rfl)) [.v I, .v U] (by decide) [] _ fun x r hw e => ?_
  obtain ⟨h, i⟩ := x
  cases e
  rw [r323]; unfold leafI
  cases hh : highB h with
  | false => rfl
  | true =>
    have h0 := high0 hh
    simp only [h0, Bool.not_true, cond_true, cond_false]
    cases decide (shrI i h > 0) <;> rfl

/-! ### node.Depth, Up -/
def depthI (h n : Int) : Int × Int := bif chkI h n != 0 then (0, chkI h n) else (depI n, 0)
theorem r362 (h n : Int) : run (orc [(N366, s366), (N330, s330)]) noL [] F362 (encA [.v I, .v U] (h, n)) [] = bif chkI h n != 0 then some (ri2 0 (chkI h n)) else some (ri2 (depI n) 0) := by kernel_rfl
def s362 : Sp := .fn [.v I, .v U] fun x => (true, ri2 (depthI x.1 x.2).1 (depthI x.1 x.2).2)
theorem g362 : GoodS Try.prog N362 s362 := by
  refine good (.cons g366 (.cons g330 (.nil _))) H362 rfl (by kernel_rfl) noL [] (noLoops (by kernel_rfl)) [.v I, .v U] (by decide) [] _ fun x r hw e => ?_
  obtain ⟨h, n⟩ := x
  cases e
  rw [r362]; unfold depthI
  cases chkI h n != 0 <;> rfl

def outUp (n k : Int) : Bool := bif decide (k < 0) then true else decide (k > depI n)
def upI (h n k : Int) : Int × Int := bif chkI h n != 0 then (0, chkI h n) else bif outUp n k then (0, 4) else (shrI n (depI n - k), 0)
theorem r363 (h n k : Int) : run (orc [(N366, s366), (N330, s330)]) noL [] F363 (encA [.v I, .v U, .v I] (h, n, k)) [] =
    bif chkI h n != 0 then some (re2 0 (chkI h n)) else bif outUp n k then some (re2 0 4) else bif decide (0 ≤ IntKind.i64.wrap (depI n - k)) then some (re2 (shrI n (IntKind.i64.wrap (depI n - k))) 0) else none := by kernel_rfl
theorem outUp_false {n k : Int} (hw : IntKind.u64.has n) (ho : outUp n k = false) : 0 ≤ k ∧ k ≤ depI n ∧ IntKind.i64.wrap (depI n - k) = depI n - k ∧ decide (0 ≤ depI n - k) = true := by
  have hd := depI_bd hw
  unfold outUp at ho
  cases h1 : decide (k < 0) with
  | true => rw [h1] at ho; cases ho
  | false =>
    rw [h1] at ho
    have h1 := of_decide_eq_false h1
    have h2 := of_decide_eq_false ho
    exact ⟨by omega, by omega, wrap64 (by omega) (by omega), decide_eq_true (by omega)⟩
def s363 : Sp := .fn [.v I, .v U, .v I] fun x => (true, re2 (upI x.1 x.2.1 x.2.2).1 (upI x.1 x.2.1 x.2.2).2)
theorem g363 : GoodS Try.prog N363 s363 := by
  refine good (.cons g366 (.cons g330 (.nil _))) H363 rfl (by kernel_rfl) noL [] (noLoops (by kernel_rfl)) [.v I, .v U, .v I] (by decide) [] _ fun x r hw e => ?_
  obtain ⟨h, n, k⟩ := x
  cases e
  rw [r363]; unfold upI
  cases chkI h n != 0 with
  | true => rfl
  | false =>
    cases ho : outUp n k with
    | true => rfl
    | false =>
      obtain ⟨_, _, e1, h0⟩ := outUp_false hw.2.1 ho
      rw [e1, h0]; rfl

/-! ### node.above, Above -/
def aboveB (a b : Int) : Bool := bif decide (depI a ≤ depI b) then shrI b (depI b - depI a) == a else false
theorem r329 (a b : Int) : run (orc [(N330, s330)]) noL [] F329 (encA [.v U, .v U] (a, b)) [] =
    bif decide (0 ≤ IntKind.i64.wrap (depI b - depI a)) || !boolBeq (decide (depI a ≤ depI b)) true then
      some (.one (.bool (bif decide (depI a ≤ depI b) then shrI b (IntKind.i64.wrap (depI b - depI a)) == a else false))) else none := by kernel_rfl
def s329 : Sp := .fn [.v U, .v U] fun x => (true, .one (.bool (aboveB x.1 x.2)))
theorem g329 : GoodS Try.prog N329 s329 := by
  refine good (.cons g330 (.nil _)) H329 rfl (by kernel_rfl) noL [] (noLoops (by kernel_rfl)) [.v U, .v U] (by decide) [] _ fun x r hw e => ?_
  obtain ⟨a, b⟩ := x
  cases e
  have ha := depI_bd (n := a) hw.1
  have hb := depI_bd (n := b) hw.2
  have e1 : IntKind.i64.wrap (depI b - depI a) = depI b - depI a := wrap64 (by omega) (by omega)
  rw [r329, e1]; unfold aboveB
  cases h : decide (depI a ≤ depI b) with
  | false => cases decide (0 ≤ depI b - depI a) <;> rfl
  | true =>
    have h := of_decide_eq_true h
    have h0 : decide (0 ≤ depI b - depI a) = true := decide_eq_true (by omega)
    rw [h0]; rfl
def aboveI (h a b : Int) : Bool × Int := bif bothI h a b != 0 then (false, bothI h a b) else (aboveB a b, 0)
theorem r375 (h a b : Int) : run (orc [(N328, s328), (N329, s329)]) noL [] F375 (encA [.v I, .v U, .v U] (h, a, b)) [] = bif bothI h a b != 0 then some (rb2 false (bothI h a b)) else some (rb2 (aboveB a b) 0) := by kernel_rfl
def s375 : Sp := .fn [.v I, .v U, .v U] fun x => (true, rb2 (aboveI x.1 x.2.1 x.2.2).1 (aboveI x.1 x.2.1 x.2.2).2)
theorem g375 : GoodS Try.prog N375 s375 := by
  refine good (.cons g328 (.cons g329 (.nil _))) H375 rfl (by kernel_rfl) noL [] (noLoops (by kernel_rfl)) [.v I, .v U, .v U] (by decide) [] _ fun x r hw e => ?_
  obtain ⟨h, a, b⟩ := x
  cases e
  rw [r375]; unfold aboveI
  cases bothI h a b != 0 <;> rfl
--CUT
end Go.AM.Seat
