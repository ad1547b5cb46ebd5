/- Plain: what the code's tree, hanging nodes and meeting nodes are. -/
import Derived.Test.YtkalaofppiifcaaSeCv9
import Derived.Test.YtkalaofppiifcaaPlCov2
set_option linter.unusedVariables false
set_option maxRecDepth 100000
namespace Go.AM.Seat
open Go Go.AM Go.Proofs

/-! ### Compact of a list in order -/
theorem compact_spec {l : List Int} (h : l.Pairwise (· ≤ ·)) : (compactL l).Pairwise (· < ·) ∧ ∀ x, x ∈ compactL l ↔ x ∈ l := by
  have hat : ∀ j (hj : j < l.length), l.toArray[j]! = l[j] := fun j hj => by simp [hj]
  have hle : ∀ i j (hi : i < l.length) (hj : j < l.length), i ≤ j → l[i] ≤ l[j] := fun i j hi hj hij => by
    rcases Nat.lt_or_ge i j with h1 | h1
    · exact List.pairwise_iff_getElem.1 h i j hi hj h1
    · obtain rfl : i = j := by omega
      exact Int.le_refl _
  have hk : ∀ j, Lib.keeps l.toArray j = true ↔ j = 0 ∨ ¬ l.toArray[j]! = l.toArray[j - 1]! := fun j => by
    unfold Lib.keeps; simp
  unfold compactL Lib.compactUpTo
  have hsz : l.toArray.size = l.length := by simp
  rw [hsz]
  constructor
  · rw [List.pairwise_map]
    refine List.Pairwise.imp_of_mem (R := fun a b => a < b) ?_ (List.Pairwise.filter _ List.pairwise_lt_range)
    intro i j hi hj hij
    obtain ⟨i1, i2⟩ := List.mem_filter.1 hi
    obtain ⟨j1, j2⟩ := List.mem_filter.1 hj
    have i1 := List.mem_range.1 i1
    have j1 := List.mem_range.1 j1
    have j2 := ((hk j).1 j2).resolve_left (by omega)
    rw [hat j j1, hat (j - 1) (by omega)] at j2
    rw [hat i i1, hat j j1]
    have a := hle i (j - 1) i1 (by omega) (by omega)
    have b := hle (j - 1) j (by omega) j1 (by omega)
    omega
  · intro x
    refine ⟨fun hx => compactL_mem (by unfold compactL Lib.compactUpTo; rw [hsz]; exact hx), fun hx => ?_⟩
    obtain ⟨k, hk1, rfl⟩ := List.getElem_of_mem hx
    have key : ∀ k (h : k < l.length), l[k] ∈ List.map (fun x => l.toArray[x]!) (List.filter (Lib.keeps l.toArray) (List.range l.length)) := by
      intro k
      induction k with
      | zero =>
        intro h
        exact List.mem_map.2 ⟨0, List.mem_filter.2 ⟨List.mem_range.2 h, (hk 0).2 (.inl rfl)⟩, hat 0 h⟩
      | succ k ih =>
        intro h
        by_cases he : l.toArray[k + 1]! = l.toArray[k]!
        · rw [hat _ h, hat k (by omega)] at he
          rw [he]; exact ih (by omega)
        · exact List.mem_map.2 ⟨k + 1, List.mem_filter.2 ⟨List.mem_range.2 h, (hk (k + 1)).2 (.inr he)⟩, hat _ h⟩
    exact key k hk1
/-! ### the tree -/
/-- A level: the nodes k above leaves. -/
structure Lvl (H : Nat) (S : List Nat) (k : Nat) (lv : List Int) : Prop where
  so : lv.Pairwise (· < ·)
  mem : ∀ x : Int, x ∈ lv ↔ ∃ i ∈ S, x = ((leafN H i / 2 ^ k : Nat) : Int)
theorem shr1_nat (n : Nat) : shr1 (n : Int) = ((n / 2 : Nat) : Int) := by
  unfold shr1
  have e : (2 : Int) ^ min (Int.toNat 1) IntKind.u64.bits = 2 := by decide
  rw [e, Int.fdiv_eq_ediv_of_nonneg _ (by omega)]; omega
theorem Lvl.up {H : Nat} {S : List Nat} {k : Nat} {lv : List Int} (h : Lvl H S k lv) : Lvl H S (k + 1) (upL lv) := by
  have hle : (lv.map shr1).Pairwise (· ≤ ·) := by
    rw [List.pairwise_map]
    refine List.Pairwise.imp_of_mem (R := fun a b => a < b) (fun {a b} ha hb hab => ?_) h.so
    obtain ⟨i, _, rfl⟩ := (h.mem a).1 ha
    obtain ⟨j, _, rfl⟩ := (h.mem b).1 hb
    rw [shr1_nat, shr1_nat]
    have := Nat.div_le_div_right (c := 2) (show leafN H i / 2 ^ k ≤ leafN H j / 2 ^ k by omega)
    omega
  obtain ⟨c1, c2⟩ := compact_spec hle
  refine ⟨c1, fun x => (c2 x).trans ?_⟩
  rw [List.mem_map]
  constructor
  · rintro ⟨y, hy, rfl⟩
    obtain ⟨i, hi, rfl⟩ := (h.mem y).1 hy
    exact ⟨i, hi, by rw [shr1_nat, Nat.div_div_eq_div_mul, ← Nat.pow_succ]⟩
  · rintro ⟨i, hi, rfl⟩
    exact ⟨_, (h.mem _).2 ⟨i, hi, rfl⟩, by rw [shr1_nat, Nat.div_div_eq_div_mul, ← Nat.pow_succ]⟩
theorem lt_of_log {a b : Nat} (hb : b ≠ 0) (h : a.log2 < b.log2) : a < b := by
  have h1 := lt_log2 (n := a)
  have h2 := log2_le hb
  have := Nat.pow_le_pow_right (n := 2) (by decide) (show a.log2 + 1 ≤ b.log2 by omega)
  omega
theorem treeG_spec {H : Nat} {S : List Nat} (hS : ∀ i ∈ S, i < 2 ^ H) : ∀ (m k : Nat) (lv out : List Int), k + m = H + 1 → Lvl H S k lv → out.Pairwise (· < ·) → (∀ x : Int, x ∈ out ↔ ∃ i ∈ S, ∃ j, j < k ∧ x = ((leafN H i / 2 ^ j : Nat) : Int)) →
    (treeG m lv out).Pairwise (· < ·) ∧ ∀ x : Int, x ∈ treeG m lv out ↔ ∃ i ∈ S, ∃ j, j < H + 1 ∧ x = ((leafN H i / 2 ^ j : Nat) : Int) := by
  intro m
  induction m with
  | zero =>
    intro k lv out hk hl ho hm
    obtain rfl : k = H + 1 := by omega
    exact ⟨ho, hm⟩
  | succ m ih =>
    intro k lv out hk hl ho hm
    refine ih (k + 1) (upL lv) (lv ++ out) (by omega) hl.up ?_ fun x => ?_
    · refine List.pairwise_append.2 ⟨hl.so, ho, fun x hx y hy => ?_⟩
      obtain ⟨i, hi, rfl⟩ := (hl.mem x).1 hx
      obtain ⟨i', hi', j, hj, rfl⟩ := (hm y).1 hy
      have a := leafN_log2 (hS i hi)
      have b := leafN_log2 (hS i' hi')
      have := lt_of_log (a := leafN H i / 2 ^ k) (b := leafN H i' / 2 ^ j) (div_pos leafN_ne (by omega)) (by rw [log2_div leafN_ne (by omega), log2_div leafN_ne (by omega)]; omega)
      omega
    · rw [List.mem_append, hl.mem, hm]
      constructor
      · rintro (⟨i, hi, rfl⟩ | ⟨i, hi, j, hj, rfl⟩)
        · exact ⟨i, hi, k, by omega, rfl⟩
        · exact ⟨i, hi, j, by omega, rfl⟩
      · rintro ⟨i, hi, j, hj, rfl⟩
        rcases Nat.lt_or_ge j k with h | h
        · exact .inr ⟨i, hi, j, h, rfl⟩
        · obtain rfl : j = k := by omega
          exact .inl ⟨i, hi, rfl⟩
/-- A set that may be, in natural numbers. -/
structure SetN (a : Int) (l : List Int) (H : Nat) (S : List Nat) : Prop where
  ha : a = (H : Int)
  h1 : 1 ≤ H
  h2 : H ≤ 32
  map : l = S.map fun i : Nat => (i : Int)
  lt : ∀ i ∈ S, i < 2 ^ H
  len : S.length ≤ 1024
  so : S.Pairwise (· < ·)
theorem setN_of {a : Int} {l : List Int} (h : lokB a l = true) (hu : ∀ x ∈ l, IntKind.u64.has x) : SetN a l a.toNat (l.map Int.toNat) := by
  obtain ⟨h1, h2, _⟩ := lok_len h
  have h3 := highB_iff.1 (chk_zero h2).1
  have h4 := lok_sorted h
  refine ⟨by omega, by omega, by omega, ?_, fun i hi => ?_, by rw [List.length_map]; exact h1, ?_⟩
  · rw [List.map_map]
    conv => lhs; rw [← List.map_id l]
    refine List.map_congr_left fun x hx => ?_
    have : 0 ≤ x := (hu x hx).1
    show x = ((x.toNat : Nat) : Int)
    omega
  · obtain ⟨x, hx, rfl⟩ := List.mem_map.1 hi
    obtain ⟨c0, c1, _⟩ := hasU (hu x hx)
    have := lok_leaf h x hx
    rw [leaf_err c0 c1] at this
    exact (leafOk_iff.1 this).2.2
  · rw [List.pairwise_map]
    refine List.Pairwise.imp_of_mem (R := fun a b => a < b) (fun {x y} hx hy hxy => ?_) h4
    have a1 : 0 ≤ x := (hu x hx).1
    have a2 : 0 ≤ y := (hu y hy).1
    omega
theorem SetN.leaf {a : Int} {l : List Int} {H : Nat} {S : List Nat} (s : SetN a l H S) {i : Nat} (hi : i < 2 ^ H) : leafI a (i : Int) = (((leafN H i : Nat) : Int), 0) := by
  have hp := pow32 s.h2
  rw [leaf_nat (by omega) (by omega), s.ha]
  unfold leafV
  rw [Int.toNat_natCast, Int.toNat_natCast, decide_eq_true s.h1, decide_eq_true s.h2, decide_eq_true hi]; rfl
theorem SetN.level {a : Int} {l : List Int} {H : Nat} {S : List Nat} (s : SetN a l H S) : Lvl H S 0 (l.map fun x => (leafI a x).1) := by
  have e : (l.map fun x => (leafI a x).1) = S.map fun i => ((leafN H i : Nat) : Int) := by
    rw [s.map, List.map_map]
    exact List.map_congr_left fun i hi => congrArg Prod.fst (s.leaf (s.lt i hi))
  rw [e]
  refine ⟨?_, fun x => ?_⟩
  · rw [List.pairwise_map]
    exact s.so.imp fun {i j} h => by unfold leafN; omega
  · rw [List.mem_map]
    constructor
    · rintro ⟨i, hi, rfl⟩; exact ⟨i, hi, by rw [Nat.pow_zero, Nat.div_one]⟩
    · rintro ⟨i, hi, rfl⟩; exact ⟨i, hi, by rw [Nat.pow_zero, Nat.div_one]⟩
theorem SetN.tree {a : Int} {l : List Int} {H : Nat} {S : List Nat} (s : SetN a l H S) : (treeL a l).Pairwise (· < ·) ∧ ∃ t : List Nat, treeL a l = t.map (fun n : Nat => (n : Int)) ∧ TreeN H S t := by
  obtain ⟨h1, h2⟩ := treeG_spec s.lt (H + 1) 0 (l.map fun x => (leafI a x).1) [] (by omega) s.level .nil fun x => by
    constructor
    · intro h; cases h
    · rintro ⟨i, _, j, hj, _⟩; omega
  have ea : (a + 1).toNat = H + 1 := by have := s.ha; omega
  have e : treeL a l = treeG (H + 1) (l.map fun x => (leafI a x).1) [] := by unfold treeL; rw [ea]
  rw [e]
  refine ⟨h1, (treeG (H + 1) (l.map fun x => (leafI a x).1) []).map Int.toNat, ?_, ?_, fun x => ?_⟩
  · rw [List.map_map]
    have hmem := h2
    generalize treeG (H + 1) (l.map fun x => (leafI a x).1) [] = t at *
    conv => lhs; rw [← List.map_id t]
    refine List.map_congr_left fun x hx => ?_
    obtain ⟨i, _, j, _, rfl⟩ := (hmem x).1 hx
    rfl
  · have hp : ∀ x ∈ treeG (H + 1) (l.map fun x => (leafI a x).1) [], 0 ≤ x := fun x hx => by
      obtain ⟨i, _, j, _, rfl⟩ := (h2 x).1 hx
      exact Int.natCast_nonneg _
    generalize treeG (H + 1) (l.map fun x => (leafI a x).1) [] = t at *
    unfold List.Nodup
    rw [List.pairwise_map]
    refine List.Pairwise.imp_of_mem (R := fun a b => a < b) (fun {x y} hx hy hxy => ?_) h1
    have := hp x hx
    have := hp y hy
    omega
  · constructor
    · intro h
      obtain ⟨y, hy, rfl⟩ := List.mem_map.1 h
      obtain ⟨i, hi, j, hj, rfl⟩ := (h2 y).1 hy
      have hl := leafN_log2 (s.lt i hi)
      refine ⟨i, hi, ?_⟩
      rw [Int.toNat_natCast]
      refine abv_iff.2 ⟨by rw [log2_div leafN_ne (by omega)]; omega, ?_⟩
      rw [log2_div leafN_ne (by omega), hl, show H - (H - j) = j by omega]
    · rintro ⟨i, hi, hb⟩
      have hl := leafN_log2 (s.lt i hi)
      obtain ⟨p1, p2⟩ := abv_iff.1 hb
      refine List.mem_map.2 ⟨(x : Int), (h2 x).2 ⟨i, hi, (leafN H i).log2 - x.log2, by omega, by rw [p2]⟩, Int.toNat_natCast x⟩
end Go.AM.Seat
