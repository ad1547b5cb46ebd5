/- Plain: the deepest node above all of a set below one. -/
import Derived.Test.YtkalaofppiifcaaPlCov4
set_option linter.unusedVariables false
set_option maxRecDepth 100000
namespace Go.AM.Seat
open Go Go.AM Go.Proofs

theorem lenI_bits (n : Nat) : lenI (n : Int) = (bitsN n : Int) := by
  unfold bitsN
  by_cases h : n = 0
  · rw [if_pos h, h]; rfl
  · rw [if_neg h, lenI_nat h]; omega
theorem xorI_natC {a b : Nat} (ha : a < 2 ^ 64) (hb : b < 2 ^ 64) : xorI a b = ((a ^^^ b : Nat) : Int) := by
  unfold xorI
  have e1 : (BitVec.ofInt 64 (a : Int)).toNat = a := by rw [BitVec.toNat_ofInt]; omega
  have e2 : (BitVec.ofInt 64 (b : Int)).toNat = b := by rw [BitVec.toNat_ofInt]; omega
  rw [BitVec.toNat_xor, e1, e2, wrapU]
  · omega
  · have := Nat.xor_lt_two_pow ha hb; omega
theorem leafN_ok {H i : Nat} (h1 : 1 ≤ H) (h2 : H ≤ 32) (hi : i < 2 ^ H) : okN H (leafN H i) = true :=
  okN_iff.2 ⟨h1, h2, Nat.pos_of_ne_zero leafN_ne, (okN_log leafN_ne).2 (by rw [leafN_log2 hi]; exact Nat.le_refl _)⟩
theorem meet_leaf {a : Int} {H x y : Nat} (ha : a = (H : Int)) (h1 : 1 ≤ H) (h2 : H ≤ 32) (hx : x < 2 ^ H) (hy : y < 2 ^ H) (hxy : x ≤ y) :
    meetI a ((leafN H x : Nat) : Int) ((leafN H y : Nat) : Int) = (((leafN H x / 2 ^ bitsN (leafN H x ^^^ leafN H y) : Nat) : Int), 0) := by
  have hp := pow32 h2
  have lx := leafN_log2 hx
  have ly := leafN_log2 hy
  have bx : leafN H x < 2 ^ 64 := by unfold leafN; omega
  have by' : leafN H y < 2 ^ 64 := by unfold leafN; omega
  have hc : ∀ {z : Nat}, z < 2 ^ H → (chkI a ((leafN H z : Nat) : Int) != 0) = false := fun {z} hz => by
    rw [chk_ne (by omega), ha, Int.toNat_natCast, Int.toNat_natCast, leafN_ok h1 h2 hz]; rfl
  have hd : ∀ {z : Nat}, z < 2 ^ H → depI ((leafN H z : Nat) : Int) = (H : Int) := fun {z} hz => by
    have : leafN H z ≠ 0 := leafN_ne
    rw [dep_nat (by omega), Int.toNat_natCast, leafN_log2 hz]
  have m1 : minI (H : Int) (H : Int) = (H : Int) := by unfold minI; split <;> rfl
  have s0 : ∀ {z : Nat}, shrI (z : Int) 0 = (z : Int) := fun {z} => by rw [shr_nat (by omega) (by omega)]; show ((z / 2 ^ 0 : Nat) : Int) = _; rw [Nat.pow_zero, Nat.div_one]
  have hb := (meet_ok (A := leafN H x) (B := leafN H y) leafN_ne (by omega) (by unfold leafN; omega)).1
  unfold meetI bothI both
  rw [hc hx, hc hy, hd hx, hd hy, m1]
  simp only [cond_false, Int.sub_self, s0]
  rw [xorI_natC bx by', lenI_bits, shr_nat (by omega) (by omega), Int.toNat_natCast, Int.toNat_natCast]
  rfl
theorem SetN.below {a : Int} {l : List Int} {H : Nat} {S : List Nat} (s : SetN a l H S) {n : Nat} (hn : okN H n = true) : belowL a l n = (S.filter fun i => abv n (leafN H i)).map fun i : Nat => (i : Int) := by
  unfold belowL
  rw [s.map, List.filter_map]
  congr 1
  refine List.filter_congr fun i hi => ?_
  have := (within_nat (h := a) (n := (n : Int)) (i := (i : Int)) (by omega) (by omega) (by rw [s.ha, Int.toNat_natCast, Int.toNat_natCast]; exact hn) (by rw [s.ha, Int.toNat_natCast, Int.toNat_natCast]; exact s.lt i hi)).2
  rw [s.ha, Int.toNat_natCast, Int.toNat_natCast, Int.toNat_natCast] at this
  rw [← s.ha] at this
  exact this
theorem down_law {a : Int} {l : List Int} {H : Nat} {S : List Nat} (s : SetN a l H S) (h : lokB a l = true) {n : Nat} (hn : okN H n = true) (hne : ∃ i ∈ S, abv n (leafN H i) = true) :
    ∃ d : Nat, downI a l (n : Int) = ((d : Int), 0) ∧ DownN H S n d ∧ (d.log2 < H → (∃ x ∈ S, abv (2 * d) (leafN H x) = true) ∧ ∃ x ∈ S, abv (2 * d + 1) (leafN H x) = true) := by
  have hb : belowB a l (n : Int) = false := by
    have h1 : (leavesI a (n : Int)).2 = 0 := by
      obtain ⟨i, hi, _⟩ := hne
      exact (within_nat (i := (i : Int)) (by omega) (by omega) (by rw [s.ha, Int.toNat_natCast, Int.toNat_natCast]; exact hn) (by rw [s.ha, Int.toNat_natCast, Int.toNat_natCast]; exact s.lt i hi)).1
    unfold belowB lchkI
    rw [h1, h]; rfl
  have hbl := s.below hn
  have hso : (S.filter fun i => abv n (leafN H i)).Pairwise (· < ·) := s.so.filter _
  have hmem : ∀ i, i ∈ (S.filter fun i => abv n (leafN H i)) ↔ i ∈ S ∧ abv n (leafN H i) = true := fun i => List.mem_filter
  generalize (S.filter fun i => abv n (leafN H i)) = B at *
  obtain ⟨i, hi, hib⟩ := hne
  have hB : 0 < B.length := List.length_pos_of_mem ((hmem i).2 ⟨hi, hib⟩)
  have hle : ∀ p q (hp : p < B.length) (hq : q < B.length), p ≤ q → B[p] ≤ B[q] := fun p q hp hq hpq => by
    rcases Nat.lt_or_ge p q with h9 | h9
    · exact Nat.le_of_lt (List.pairwise_iff_getElem.1 hso p q hp hq h9)
    · obtain rfl : p = q := by omega
      exact Nat.le_refl _
  have hin : ∀ p (hp : p < B.length), B[p] ∈ S ∧ abv n (leafN H B[p]) = true := fun p hp => (hmem _).1 (List.getElem_mem hp)
  have e0 : bsAu (B.map fun i : Nat => (i : Int)) 0 = ((B[0] : Nat) : Int) := by
    unfold bsAu
    rw [List.getD_eq_getElem?_getD, List.getElem?_map, show (0 : Int).toNat = 0 from rfl, List.getElem?_eq_getElem hB]; rfl
  have hlen1024 : B.length ≤ 1024 := by
    have h1 := below_len (a := a) (l := l) (n := (n : Int))
    unfold belowR at h1
    rw [hb] at h1
    simp only [cond_false] at h1
    rw [hbl, List.length_map] at h1
    exact h1
  have e1 : endI (B.map fun i : Nat => (i : Int)) = ((B[B.length - 1] : Nat) : Int) := by
    unfold endI
    rw [List.length_map, wrap64 (n := (B.length : Int) - 1) (by omega) (by omega)]
    unfold bsAu
    rw [List.getD_eq_getElem?_getD, List.getElem?_map, show ((B.length : Int) - 1).toNat = B.length - 1 by omega, List.getElem?_eq_getElem (show B.length - 1 < B.length by omega)]; rfl
  obtain ⟨x1, x2⟩ := hin 0 hB
  obtain ⟨y1, y2⟩ := hin (B.length - 1) (by omega)
  have hxy := hle 0 (B.length - 1) hB (by omega) (by omega)
  have lx := leafN_log2 (s.lt _ x1)
  have ly := leafN_log2 (s.lt _ y1)
  obtain ⟨m1, m2⟩ := meet_ok (A := leafN H B[0]) (B := leafN H B[B.length - 1]) leafN_ne (ly.trans lx.symm) (by unfold leafN; omega)
  refine ⟨leafN H B[0] / 2 ^ bitsN (leafN H B[0] ^^^ leafN H B[B.length - 1]), ?_, ?_, fun hlt => ?_⟩
  · unfold downI belowR
    rw [hb]
    simp only [cond_false, bne_self_eq_false]
    rw [hbl, e0, e1, s.leaf (s.lt _ x1), s.leaf (s.lt _ y1), List.length_map, show ((B.length : Int) == 0) = false by rw [beq_eq_false_iff_ne]; omega]
    simp only [cond_false, bne_self_eq_false]
    exact meet_leaf s.ha s.h1 s.h2 (s.lt _ x1) (s.lt _ y1) hxy
  · have hml : (leafN H B[0] / 2 ^ bitsN (leafN H B[0] ^^^ leafN H B[B.length - 1])).log2 ≤ H := by rw [log2_div leafN_ne m1, lx]; omega
    refine ⟨hn, okN_iff.2 ⟨s.h1, s.h2, Nat.pos_of_ne_zero m2.ne, (okN_log m2.ne).2 hml⟩, m2.top n x2 y2, ⟨B[0], x1, m2.ab _ rfl (Nat.le_refl _) (by unfold leafN; omega)⟩, fun x hx hxb => ?_⟩
    obtain ⟨p, hp, rfl⟩ := List.getElem_of_mem ((hmem x).2 ⟨hx, hxb⟩)
    have a1 := hle 0 p hB hp (by omega)
    have a2 := hle p (B.length - 1) hp (by omega) (by omega)
    exact m2.ab _ (by rw [leafN_log2 (s.lt _ hx), lx]) (by unfold leafN; omega) (by unfold leafN; omega)
  · obtain ⟨f1, f2⟩ := m2.fork (by rw [lx]; exact hlt)
    exact ⟨⟨B[0], x1, f1⟩, ⟨B[B.length - 1], y1, f2⟩⟩
end Go.AM.Seat
