/- know.open, walked by the kit's own tactics: rows of rows that are appended to. -/
import Derived.Test.YtnkdeglckmogcaaSeTab
import Derived.Test.YtnkdeglckmogcaaAmLast
import Derived.Tactics
import Derived.Tactics2
import Derived.WalkKit
import Derived.WalkSpells
import Derived.StillTactics
import Derived.OwnWalk
import Derived.Laws.Pointers
import Derived.Deep.RegionHeld3
import Derived.Deep.AppendLies
import Derived.KernelRfl
set_option linter.unusedVariables false
set_option linter.unusedSimpArgs false
namespace Go.AM.Seat
open Go Go.Proofs

theorem info3 : (Try.prog.info? 3).map (fun i => (i.zero, i.size, i.bytes)) = some (some (.int .i64 0), 1, 8) := by kernel_rfl
theorem info4 : (Try.prog.info? 4).map (fun i => (i.zero, i.size, i.bytes)) = some (some (.bool false), 1, 1) := by kernel_rfl
theorem info45 : (Try.prog.info? 45).map (fun i => (i.zero, i.size, i.bytes)) = some (some (.slice none 0 0), 1, 24) := by kernel_rfl
theorem mk55 (len : Nat) (h : len ≤ 1000000) (w : World) : (Instr.makeSlice 55 (.int .i64 (len : Int)) (.int .i64 (len : Int))).run Try.prog w = .ok (.slice (some ⟨w.heap.size, 0, none⟩) len len) (w.alloc (.cells (madeCells #[.bool false] len) 4)) := by
  obtain ⟨i0, hi0, hz0, hz1, hz2⟩ := info_parts info4
  have := run_make (P := Try.prog) w 55 4 i0 _ Try.underlying55 hi0 hz0 .i64 .i64 (len : Int) (len : Int) (by omega) (by omega) (by rw [hz2]; omega) (by omega)
  rw [this, hz1]
  simp only [Int.toNat_natCast, Nat.mul_one]
  rfl
theorem mk78 (len : Nat) (h : len ≤ 1000000) (w : World) : (Instr.makeSlice 78 (.int .i64 (len : Int)) (.int .i64 (len : Int))).run Try.prog w = .ok (.slice (some ⟨w.heap.size, 0, none⟩) len len) (w.alloc (.cells (madeCells #[.slice none 0 0] len) 45)) := by
  obtain ⟨i0, hi0, hz0, hz1, hz2⟩ := info_parts info45
  have := run_make (P := Try.prog) w 78 45 i0 _ Try.underlying78 hi0 hz0 .i64 .i64 (len : Int) (len : Int) (by omega) (by omega) (by rw [hz2]; omega) (by omega)
  rw [this, hz1]
  simp only [Int.toNat_natCast, Nat.mul_one]
  rfl
def iv : Value → Int | .int _ q => q | _ => 0
def addU (us : List (List Int)) (a : Nat) (i : Int) : List (List Int) := us.set a (us.getD a [] ++ [i])
def stepU (us : List (List Int)) (t : Int × Int × Int) (i : Int) : List (List Int) :=
  let us1 := bif t.1 != 1 then addU us t.2.1.toNat i else us
  bif t.1 == 5 then addU us1 t.2.2.toNat i else us1
def useU (T : Nat → Int × Int × Int) (n : Nat) : Nat → List (List Int)
  | 0 => List.replicate n []
  | k + 1 => stepU (useU T n k) (T k) k
structure OInv (W : World) (lv : Value) (n m : Nat) (w : World) (us : List (List Int)) (bi bu : Nat) (vs : List Value) : Prop where
  fr : W.grownBy w none
  ne : bi ≠ bu
  hi : W.heap.size ≤ bi ∧ bi < W.heap.size + 2
  hu : W.heap.size ≤ bu ∧ bu < W.heap.size + 2
  cm : w.heap[W.heap.size + 1 + 1]? = some (.cells #[lv, .slice (some ⟨bi, 0, none⟩) n n, .slice none 0 0, .slice (some ⟨bu, 0, none⟩) n n] 86)
  ci : w.heap[bi]? = some (.cells (madeCells #[.bool false] n) 4)
  cu : w.heap[bu]? = some (.cells vs.toArray 45)
  lenv : vs.length = n
  lenu : us.length = n
  bd : ∀ j, (us.getD j []).length ≤ m
  own : ∀ j v, vs[j]? = some v → w.ownsRow (W.heap.size + 3) 3 1 v (us.getD j []).length ((us.getD j []).map (Value.int .i64))
  apart : ∀ (i j : Nat) (v v' : Value), i ≠ j → vs[i]? = some v → vs[j]? = some v' → v.ownBlock = none ∨ v.ownBlock ≠ v'.ownBlock
theorem own_ge {w : World} {base : Nat} {e : TypeId} {size : Nat} {v : Value} {n : Nat} {xs : List Value} (h : w.ownsRow base e size v n xs) : v.ownBlock = none ∨ ∃ g, v.ownBlock = some g ∧ base ≤ g ∧ g < w.heap.size := by
  rcases h.2 with ⟨rfl, _⟩ | ⟨g, cap, cur, rfl, hb, hg, _⟩
  · exact .inl rfl
  · refine .inr ⟨g, rfl, hb, ?_⟩
    exact (Array.getElem?_eq_some_iff.1 hg).1
theorem own_ne {w : World} {base : Nat} {e : TypeId} {size : Nat} {v : Value} {n : Nat} {xs : List Value} (h : w.ownsRow base e size v n xs) {b : Nat} (hb : b < base ∨ w.heap.size ≤ b) : v.ownBlock ≠ some b := by
  rcases own_ge h with e | ⟨g, e, h1, h2⟩
  · rw [e]; exact fun h => by cases h
  · rw [e]; intro h; cases h; omega
section
variable {W : World} {lv : Value} {n m : Nat} {w w3 : World} {us : List (List Int)} {bi bu : Nat} {vs : List Value}
theorem OInv.big (I : OInv W lv n m w us bi bu vs) : W.heap.size + 3 ≤ w.heap.size := by
  have := (Array.getElem?_eq_some_iff.1 I.cm).1
  omega
/-- Whatever is made new leaves it. -/
theorem OInv.grown (I : OInv W lv n m w us bi bu vs) (hg : w.grownBy w3 none) : OInv W lv n m w3 us bi bu vs := by
  have hb := I.big
  refine ⟨I.fr.trans hg, I.ne, I.hi, I.hu, ?_, ?_, ?_, I.lenv, I.lenu, I.bd, fun j v hv => (I.own j v hv).kept hg (by cases v.ownBlock <;> simp), I.apart⟩
  · rw [hg.block _ (by omega) (by simp)]; exact I.cm
  · rw [hg.block _ (by have := I.hi; omega) (by simp)]; exact I.ci
  · rw [hg.block _ (by have := I.hu; omega) (by simp)]; exact I.cu
theorem OInv.up (I : OInv W lv n m w us bi bu vs) {m' : Nat} (h : m ≤ m') : OInv W lv n m' w us bi bu vs :=
  ⟨I.fr, I.ne, I.hi, I.hu, I.cm, I.ci, I.cu, I.lenv, I.lenu, fun j => Nat.le_trans (I.bd j) h, I.own, I.apart⟩
/-- A row is appended to, and its head laid back. -/
theorem OInv.put (I : OInv W lv n m w us bi bu vs) {A : Nat} {v : Value} (hv : vs[A]? = some v) {k : Int} {g cap : Nat} (hg : w.grownBy w3 v.ownBlock)
    (hown : w3.ownsRow (W.heap.size + 3) 3 1 (.slice (some ⟨g, 0, none⟩) ((us.getD A []).length + 1) cap) ((us.getD A []).length + 1) ((us.getD A []).map (Value.int .i64) ++ [.int .i64 k])) (hat : v.ownBlock = some g ∨ w.heap.size ≤ g) :
    OInv W lv n (m + 1) (w3.setCell ⟨bu, A, none⟩ (.slice (some ⟨g, 0, none⟩) ((us.getD A []).length + 1) cap)) (addU us A k) bi bu (vs.set A (.slice (some ⟨g, 0, none⟩) ((us.getD A []).length + 1) cap)) := by
  have hb := I.big
  have hA : A < vs.length := (List.getElem?_eq_some_iff.1 hv).1
  have hAu : A < us.length := by rw [I.lenu, ← I.lenv]; exact hA
  have ho := I.own A v hv
  obtain ⟨v', hv'⟩ : ∃ v', v' = Value.slice (some ⟨g, 0, none⟩) ((us.getD A []).length + 1) cap := ⟨_, rfl⟩
  have hvb : v'.ownBlock = some g := by rw [hv']; rfl
  rw [← hv'] at hown ⊢
  have old : ∀ b, b < W.heap.size + 3 → w3.heap[b]? = w.heap[b]? := fun b hlt => hg.block b (by omega) (Ne.symm (own_ne ho (.inl hlt)))
  have hcu : w3.heap[bu]? = some (.cells vs.toArray 45) := by rw [old bu (by have := I.hu; omega)]; exact I.cu
  have far : ∀ b, b ≠ bu → (w3.setCell ⟨bu, A, none⟩ v').heap[b]? = w3.heap[b]? := fun b hne => heap_setCell_other w3 ⟨bu, A, none⟩ b v' hne
  have gs : w3.grownBy (w3.setCell ⟨bu, A, none⟩ v') (some bu) := ⟨rfl, rfl, rfl, by simp, fun k _ hk => far k (fun e => hk (by rw [e]))⟩
  have hgb : g ≠ bu := by
    have := own_ne hown (b := bu) (.inl (by have := I.hu; omega))
    rw [hvb] at this
    exact fun e => this (by rw [e])
  have getD_set : ∀ j, (addU us A k).getD j [] = if A = j then us.getD A [] ++ [k] else us.getD j [] := by
    intro j
    unfold addU
    rw [List.getD_eq_getElem?_getD, List.getElem?_set]
    by_cases hj : A = j
    · subst hj; rw [if_pos rfl, if_pos rfl, if_pos hAu]; rfl
    · rw [if_neg hj, if_neg hj, ← List.getD_eq_getElem?_getD]
  refine ⟨⟨(gs.os.trans hg.os).trans I.fr.os, (gs.tape.trans hg.tape).trans I.fr.tape, (gs.output.trans hg.output).trans I.fr.output, Nat.le_trans I.fr.size (Nat.le_trans hg.size gs.size), fun k hk _ => ?_⟩, I.ne, I.hi, I.hu, ?_, ?_, ?_, by simpa using I.lenv, by unfold addU; simpa using I.lenu, fun j => ?_, fun j u hu => ?_, fun i j u u' hij hi hj => ?_⟩
  · rw [far k (by have := I.hu; omega), old k (by omega)]; exact I.fr.block k hk (by simp)
  · have := I.hu
    rw [far (W.heap.size + 1 + 1) (by omega), old (W.heap.size + 1 + 1) (by omega)]; exact I.cm
  · rw [far _ I.ne, old _ (by have := I.hi; omega)]; exact I.ci
  · rw [heap_setCell_same w3 bu A vs.toArray 45 v' hcu]; simp
  · rw [getD_set]
    split
    · rw [List.length_append]; exact Nat.succ_le_succ (I.bd A)
    · have := I.bd j; omega
  · rw [getD_set]
    rw [List.getElem?_set] at hu
    by_cases hj : A = j
    · subst hj
      rw [if_pos rfl, if_pos hA] at hu
      cases hu
      rw [if_pos rfl]
      have := hown.kept gs (.inr (by rw [hvb]; exact fun e => hgb (by cases e; rfl)))
      simpa using this
    · rw [if_neg hj] at hu ⊢
      have h1 := I.own j u hu
      have h2 := h1.kept hg (I.apart j A u v (Ne.symm hj) hu hv)
      exact h2.kept gs (.inr (own_ne h2 (.inl (by have := I.hu; omega))))
  · have newN : ∀ j u, A ≠ j → vs[j]? = some u → u.ownBlock = none ∨ u.ownBlock ≠ some g := by
      intro j u hj hu
      rcases hat with h | h
      · rw [← h]; exact I.apart j A u v (Ne.symm hj) hu hv
      · exact .inr (own_ne (I.own j u hu) (.inr h))
    rw [List.getElem?_set] at hi hj
    by_cases h1 : A = i
    · subst h1
      rw [if_pos rfl, if_pos hA] at hi
      cases hi
      rw [if_neg hij] at hj
      rw [hvb]
      rcases newN j u' hij hj with h | h
      · rw [h]; exact .inr (by simp)
      · exact .inr (Ne.symm h)
    · rw [if_neg h1] at hi
      by_cases h2 : A = j
      · subst h2
        rw [if_pos rfl, if_pos hA] at hj
        cases hj
        rw [hvb]
        exact newN i u h1 hi
      · rw [if_neg h2] at hj
        exact I.apart i j u u' hij hi hj
end
theorem stepU_one (us : List (List Int)) (a b i : Int) : stepU us (1, a, b) i = us := rfl
theorem stepU_five (us : List (List Int)) (A C : Nat) (i : Int) : stepU us (5, (A : Int), (C : Int)) i = addU (addU us A i) C i := rfl
theorem stepU_else (us : List (List Int)) {kd : Int} (A : Nat) (b i : Int) (h1 : ¬kd = 1) (h5 : ¬kd = 5) : stepU us (kd, (A : Int), b) i = addU us A i := by
  unfold stepU
  have e1 : (kd != 1) = true := by simpa using h1
  have e5 : (kd == 5) = false := by simpa using h5
  simp only [e1, e5, cond_true, cond_false, Int.toNat_natCast]
theorem replicate_get {α : Type} {n j : Nat} {x v : α} (h : (List.replicate n x)[j]? = some v) : v = x := by
  rw [List.getElem?_replicate] at h
  split at h
  · exact (Option.some.inj h).symm
  · cases h
theorem OInv.start {W w : World} {lv : Value} {n : Nat} {bi bu : Nat} (fr : W.grownBy w none) (ne : bi ≠ bu) (hi : W.heap.size ≤ bi ∧ bi < W.heap.size + 2) (hu : W.heap.size ≤ bu ∧ bu < W.heap.size + 2)
    (cm : w.heap[W.heap.size + 1 + 1]? = some (.cells #[lv, .slice (some ⟨bi, 0, none⟩) n n, .slice none 0 0, .slice (some ⟨bu, 0, none⟩) n n] 86)) (ci : w.heap[bi]? = some (.cells (madeCells #[.bool false] n) 4))
    (cu : w.heap[bu]? = some (.cells (madeCells #[.slice none 0 0] n) 45)) : OInv W lv n 0 w (List.replicate n []) bi bu (List.replicate n (.slice none 0 0)) := by
  refine ⟨fr, ne, hi, hu, cm, ci, ?_, by simp, by simp, fun j => ?_, fun j v hv => ?_, fun i j v v' hij h1 h2 => ?_⟩
  · rw [cu, ← toList_madeCells_one]
  · rw [List.getD_eq_getElem?_getD, List.getElem?_replicate]
    split <;> simp
  · rw [replicate_get hv]
    have : (List.replicate n ([] : List Int)).getD j [] = [] := by
      rw [List.getD_eq_getElem?_getD, List.getElem?_replicate]
      split <;> rfl
    rw [this]
    exact World.ownsRow_nil _ _ _ _
  · rw [replicate_get h1]; exact .inl rfl
theorem tri (W : World) (o1 o2 o3 : Obj) : W.grownBy (((W.alloc o1).alloc o2).alloc o3).drew none ∧ (((W.alloc o1).alloc o2).alloc o3).drew.heap[W.heap.size]? = some o1 ∧
    (((W.alloc o1).alloc o2).alloc o3).drew.heap[W.heap.size + 1]? = some o2 ∧ (((W.alloc o1).alloc o2).alloc o3).drew.heap[W.heap.size + 1 + 1]? = some o3 := by
  have h := ((World.grownBy_alloc W o1 none).trans (World.grownBy_alloc (W.alloc o1) o2 none)).trans (World.grownBy_alloc ((W.alloc o1).alloc o2) o3 none)
  have s1 : (W.alloc o1).heap.size = W.heap.size + 1 := by simp
  have s2 : ((W.alloc o1).alloc o2).heap.size = W.heap.size + 1 + 1 := by simp
  have n1 := heap_alloc_new W o1
  have n2 := heap_alloc_new (W.alloc o1) o2
  have n3 := heap_alloc_new ((W.alloc o1).alloc o2) o3
  rw [s1] at n2
  rw [s2] at n3
  exact ⟨⟨h.os, h.tape, h.output, h.size, h.block⟩, ((heap_alloc_old ((W.alloc o1).alloc o2) o3 (by omega)).trans (heap_alloc_old (W.alloc o1) o2 (by omega))).trans n1, (heap_alloc_old ((W.alloc o1).alloc o2) o3 (by omega)).trans n2, n3⟩
set_option maxRecDepth 100000 in
set_option maxHeartbeats 3200000 in
theorem open_any (W : World) (xb xo len cap : Nat) (xa : Option Addr) (hlen : len ≤ 1000000) (T : Nat → Int × Int × Int) (hxa : 0 < len → xa = some ⟨xb, xo, none⟩)
    (hc0 : ∀ i, i < len → W.cell? ⟨xb, xo + i * 3, none⟩ = some (.int .i64 (T i).1)) (hc1 : ∀ i, i < len → W.cell? ⟨xb, xo + i * 3 + 1, none⟩ = some (.int .i64 (T i).2.1)) (hc2 : ∀ i, i < len → W.cell? ⟨xb, xo + i * 3 + 2, none⟩ = some (.int .i64 (T i).2.2))
    (hA : ∀ i, i < len → (T i).1 ≠ 1 → 0 ≤ (T i).2.1 ∧ (T i).2.1 < len) (hB : ∀ i, i < len → (T i).1 = 5 → 0 ≤ (T i).2.2 ∧ (T i).2.2 < len) :
    Calls Try.prog 62 #[.slice xa len cap] W fun e w' => e = .returned (.pointer (some ⟨W.heap.size + 1 + 1, 0, none⟩)) ∧ ∃ bi bu vs, OInv W (.slice xa len cap) len (2 * len) w' (useU T len len) bi bu vs := by
  obtain ⟨i0, hi0, hz0, hz1, hz2⟩ := info_parts info3
  have hl0 : (0 : Int) ≤ (len : Int) := Int.natCast_nonneg _
  have hl1 : len ≤ maxLen := by unfold maxLen; omega
  have hl2 : len * 24 ≤ 140737488355328 := by omega
  have m55 := mk55 len hlen
  have m78 := mk78 len hlen
  go_enter Try.func62, Try.ntmps62
  go_wp2_with fail
  go_region_held3 (fun w' => True) (trivial) (fail)
  all_goals go_wp2_with fail
  all_goals clear m55 m78
  all_goals go_loopw [17] (fun i wl => ∃ (k : Nat) (bi bu : Nat) (vs : List Value), k ≤ len ∧ i = .int .i64 k ∧ OInv W (.slice xa len cap) len (2 * k) wl (useU T len k) bi bu vs) (fun i _ => len - (iv i).toNat)
  case atStart =>
    obtain ⟨t1, t2, t3, t4⟩ := tri W (.cells (madeCells #[.bool false] len) 4) (.cells (madeCells #[.slice none 0 0] len) 45) (.cells #[.slice xa len cap, .slice (some ⟨W.heap.size, 0, none⟩) len len, .slice none 0 0, .slice (some ⟨W.heap.size + 1, 0, none⟩) len len] 86)
    exact ⟨0, W.heap.size, W.heap.size + 1, _, Nat.zero_le _, rfl, OInv.start t1 (by omega) (by omega) (by omega) t4 t2 t3⟩
  case round =>
    obtain ⟨k, bi, bu, vs, hk, rfl, I⟩ := hrel
    by_cases hlt : k < len
    · have e := hxa (by omega)
      subst e
      obtain ⟨⟨kd, ta, tb⟩, hT⟩ : ∃ t, T k = t := ⟨_, rfl⟩
      have c0 := hc0 k hlt
      have c1 := hc1 k hlt
      have c2 := hc2 k hlt
      have a0 := hA k hlt
      have b0 := hB k hlt
      rw [hT] at c0 c1 c2 a0 b0
      have hxb : xb < W.heap.size := World.block_lt_of_cell? W _ c0
      rw [← I.fr.cell_far _ hxb (by simp)] at c0 c1 c2
      have hk0 : (0 : Int) ≤ (k : Int) := Int.natCast_nonneg _
      have hk1 : (k : Int) < (len : Int) := by omega
      clear hc0 hc1 hc2 hA hB hxa
      by_cases h1 : kd = 1
      · subst h1
        go_wp2
        refine ⟨⟨k + 1, bi, bu, vs, by omega, by simp, ?_⟩, by simp only [iv]; omega⟩
        have := (I.grown (World.grownBy_alloc wr (Obj.cells #[.int .i64 1, .int .i64 ta, .int .i64 tb] 42) none)).up (show 2 * k ≤ 2 * (k + 1) by omega)
        rw [useU, hT, stepU_one]
        exact this
      · obtain ⟨a1, a2⟩ := a0 h1
        simp only at a1 a2 c0 c1 c2 b0 h1
        obtain ⟨A, hAe⟩ : ∃ A : Nat, (A : Int) = ta := ⟨ta.toNat, by omega⟩
        subst hAe
        have hAl : A < len := by omega
        obtain ⟨v, hvA⟩ : ∃ v, vs[A]? = some v := ⟨_, List.getElem?_eq_getElem (by rw [I.lenv]; exact hAl)⟩
        go_wp2_with fail
        have hbg := I.big
        have hib := I.hu
        have IA := I.grown (World.grownBy_alloc wr (Obj.cells #[.int .i64 kd, .int .i64 A, .int .i64 tb] 42) none)
        have hhA := heap_alloc_new wr (Obj.cells #[.int .i64 kd, .int .i64 A, .int .i64 tb] 42)
        have ltA : wr.heap.size < (wr.alloc (Obj.cells #[.int .i64 kd, .int .i64 A, .int .i64 tb] 42)).heap.size := by simp
        obtain ⟨b5, hb5⟩ : ∃ b5, b5 = wr.heap.size := ⟨_, rfl⟩
        have nbA : ∀ (j : Nat) (v : Value), vs[j]? = some v → v.ownBlock ≠ some b5 := fun j v hj => own_ne (I.own j v hj) (.inr (by omega))
        obtain ⟨w1, hw1⟩ : ∃ w1, w1 = wr.alloc (Obj.cells #[.int .i64 kd, .int .i64 A, .int .i64 tb] 42) := ⟨_, rfl⟩
        rw [← hw1] at IA hhA ltA ⊢
        rw [← hb5] at hhA ltA hbg ⊢
        clear hw1 hb5 c0 c1 c2
        have kmA : w1.cell? ⟨W.heap.size + 1 + 1, 3, none⟩ = some (.slice (some ⟨bu, 0, none⟩) len len) := by rw [cell_of_row w1 _ 3 _ _ _ IA.cm]; rfl
        have kfA : w1.cell? ⟨b5, 1, none⟩ = some (.int .i64 A) := by rw [cell_of_row w1 b5 1 _ _ _ hhA]; rfl
        have kuA : w1.cell? ⟨bu, A, none⟩ = some v := by rw [cell_of_row w1 _ A _ _ _ IA.cu]; simpa using hvA
        have hoA := IA.own A v hvA
        have hbdA := IA.bd A
        obtain ⟨rowA, hrowA⟩ : ∃ r, (useU T len k).getD A [] = r := ⟨_, rfl⟩
        rw [hrowA] at hoA hbdA
        have n1A : v.ownBlock ≠ some (W.heap.size + 1 + 1) := own_ne hoA (.inl (by omega))
        have n2A : v.ownBlock ≠ some bu := own_ne hoA (.inl (by omega))
        have n3A : v.ownBlock ≠ some b5 := nbA A v hvA
        have hxA := IA.big
        have hm2A : (w1.alloc (.cells #[.int .i64 k] 3)).heap[W.heap.size + 1 + 1]? = some (.cells #[.slice (some ⟨xb, xo, none⟩) len cap, .slice (some ⟨bi, 0, none⟩) len len, .slice none 0 0, .slice (some ⟨bu, 0, none⟩) len len] 86) := (heap_alloc_old w1 _ (by omega)).trans IA.cm
        have hbuA : (w1.alloc (.cells #[.int .i64 k] 3)).heap[bu]? = some (.cells vs.toArray 45) := (heap_alloc_old w1 _ (by omega)).trans IA.cu
        have hh2A : (w1.alloc (.cells #[.int .i64 k] 3)).heap[b5]? = some (.cells #[.int .i64 kd, .int .i64 A, .int .i64 tb] 42) := (heap_alloc_old w1 _ ltA).trans hhA
        have km2A : (w1.alloc (.cells #[.int .i64 k] 3)).drew.cell? ⟨W.heap.size + 1 + 1, 3, none⟩ = some (.slice (some ⟨bu, 0, none⟩) len len) := by
          show (w1.alloc (.cells #[.int .i64 k] 3)).cell? _ = _
          rw [cell_of_row _ _ 3 _ _ _ hm2A]; rfl
        have kf2A : (w1.alloc (.cells #[.int .i64 k] 3)).drew.cell? ⟨b5, 1, none⟩ = some (.int .i64 A) := by
          show (w1.alloc (.cells #[.int .i64 k] 3)).cell? _ = _
          rw [cell_of_row _ _ 1 _ _ _ hh2A]; rfl
        have ku2A : (w1.alloc (.cells #[.int .i64 k] 3)).drew.cell? ⟨bu, A, none⟩ = some v := by
          show (w1.alloc (.cells #[.int .i64 k] 3)).cell? _ = _
          rw [cell_of_row _ bu A _ _ _ hbuA]; simpa using hvA
        have hnbA : (w1.alloc (.cells #[.int .i64 k] 3)).heap[w1.heap.size]? = some (.cells #[.int .i64 k] 3) := heap_alloc_new w1 _
        have hHeld : w1.drew.cell? ⟨W.heap.size + 1 + 1, 3, none⟩ = some (.slice (some ⟨bu, 0, none⟩) len len) ∧ w1.drew.cell? ⟨b5, 1, none⟩ = some (.int .i64 A) ∧ w1.drew.cell? ⟨bu, A, none⟩ = some v := ⟨kmA, kfA, kuA⟩
        refine wp_region_lastH (n := 18) (S := fun w' => w'.cell? ⟨W.heap.size + 1 + 1, 3, none⟩ = some (.slice (some ⟨bu, 0, none⟩) len len) ∧ w'.cell? ⟨b5, 1, none⟩ = some (.int .i64 A) ∧ w'.cell? ⟨bu, A, none⟩ = some v) (by kernel_rfl) rfl rfl (by kernel_rfl) ?_
        change wpAnyH _ _ _ _ _ _ _ _ w1.drew
        simp only [List.pop_toArray, List.dropLast]
        refine wpAnyH_take (i := 0) (v := .pointer (some ⟨W.heap.size + 1 + 1, 0, none⟩)) rfl (by kernel_rfl) (by kernel_rfl) (by kernel_rfl) (fun _ _ _ h => h) (Or.inl ⟨by rfl, by intro w hSw; (try dsimp only at hSw); go_simp⟩) hHeld ?_
        simp only [Act.put, List.setIfInBounds_toArray, List.set_cons_zero, List.set_cons_succ]
        refine wpAnyH_take (i := 1) (v := .pointer (some ⟨W.heap.size + 1 + 1, 0, none⟩)) rfl (by kernel_rfl) (by kernel_rfl) (by kernel_rfl) (fun _ _ _ h => h) (Or.inl ⟨by rfl, by intro w hSw; (try dsimp only at hSw); go_simp⟩) hHeld ?_
        simp only [Act.put, List.setIfInBounds_toArray, List.set_cons_zero, List.set_cons_succ]
        refine wpAnyH_take (i := 2) (v := .pointer (some ⟨W.heap.size + 1 + 1, 3, none⟩)) rfl (by kernel_rfl) (by kernel_rfl) (by kernel_rfl) (fun _ _ _ h => h) (Or.inl ⟨by rfl, by intro w hSw; (try dsimp only at hSw); go_simp⟩) hHeld ?_
        simp only [Act.put, List.setIfInBounds_toArray, List.set_cons_zero, List.set_cons_succ]
        refine wpAnyH_take (i := 3) (v := .slice (some ⟨bu, 0, none⟩) len len) rfl (by kernel_rfl) (by kernel_rfl) (by kernel_rfl) (fun _ _ _ h => h) (Or.inl ⟨by rfl, by intro w hSw; (try dsimp only at hSw); go_simp⟩) hHeld ?_
        simp only [Act.put, List.setIfInBounds_toArray, List.set_cons_zero, List.set_cons_succ]
        refine wpAnyH_take (i := 4) (v := .pointer (some ⟨b5, 1, none⟩)) rfl (by kernel_rfl) (by kernel_rfl) (by kernel_rfl) (fun _ _ _ h => h) (Or.inl ⟨by rfl, by intro w hSw; (try dsimp only at hSw); go_simp⟩) hHeld ?_
        simp only [Act.put, List.setIfInBounds_toArray, List.set_cons_zero, List.set_cons_succ]
        refine wpAnyH_take (i := 5) (v := .int .i64 A) rfl (by kernel_rfl) (by kernel_rfl) (by kernel_rfl) (fun _ _ _ h => h) (Or.inl ⟨by rfl, by intro w hSw; (try dsimp only at hSw); go_simp⟩) hHeld ?_
        simp only [Act.put, List.setIfInBounds_toArray, List.set_cons_zero, List.set_cons_succ]
        refine wpAnyH_take (i := 6) (v := .pointer (some ⟨W.heap.size + 1 + 1, 0, none⟩)) rfl (by kernel_rfl) (by kernel_rfl) (by kernel_rfl) (fun _ _ _ h => h) (Or.inl ⟨by rfl, by intro w hSw; (try dsimp only at hSw); go_simp⟩) hHeld ?_
        simp only [Act.put, List.setIfInBounds_toArray, List.set_cons_zero, List.set_cons_succ]
        refine wpAnyH_take (i := 7) (v := .pointer (some ⟨W.heap.size + 1 + 1, 0, none⟩)) rfl (by kernel_rfl) (by kernel_rfl) (by kernel_rfl) (fun _ _ _ h => h) (Or.inl ⟨by rfl, by intro w hSw; (try dsimp only at hSw); go_simp⟩) hHeld ?_
        simp only [Act.put, List.setIfInBounds_toArray, List.set_cons_zero, List.set_cons_succ]
        refine wpAnyH_take (i := 8) (v := .pointer (some ⟨W.heap.size + 1 + 1, 3, none⟩)) rfl (by kernel_rfl) (by kernel_rfl) (by kernel_rfl) (fun _ _ _ h => h) (Or.inl ⟨by rfl, by intro w hSw; (try dsimp only at hSw); go_simp⟩) hHeld ?_
        simp only [Act.put, List.setIfInBounds_toArray, List.set_cons_zero, List.set_cons_succ]
        refine wpAnyH_take (i := 9) (v := .slice (some ⟨bu, 0, none⟩) len len) rfl (by kernel_rfl) (by kernel_rfl) (by kernel_rfl) (fun _ _ _ h => h) (Or.inl ⟨by rfl, by intro w hSw; (try dsimp only at hSw); go_simp⟩) hHeld ?_
        simp only [Act.put, List.setIfInBounds_toArray, List.set_cons_zero, List.set_cons_succ]
        refine wpAnyH_take (i := 10) (v := .pointer (some ⟨b5, 1, none⟩)) rfl (by kernel_rfl) (by kernel_rfl) (by kernel_rfl) (fun _ _ _ h => h) (Or.inl ⟨by rfl, by intro w hSw; (try dsimp only at hSw); go_simp⟩) hHeld ?_
        simp only [Act.put, List.setIfInBounds_toArray, List.set_cons_zero, List.set_cons_succ]
        refine wpAnyH_take (i := 11) (v := .int .i64 A) rfl (by kernel_rfl) (by kernel_rfl) (by kernel_rfl) (fun _ _ _ h => h) (Or.inl ⟨by rfl, by intro w hSw; (try dsimp only at hSw); go_simp⟩) hHeld ?_
        simp only [Act.put, List.setIfInBounds_toArray, List.set_cons_zero, List.set_cons_succ]
        refine wpAnyH_take (i := 12) (v := .pointer (some ⟨bu, A, none⟩)) rfl (by kernel_rfl) (by kernel_rfl) (by kernel_rfl) (fun _ _ _ h => h) (Or.inl ⟨by rfl, by intro w hSw; (try dsimp only at hSw); go_simp⟩) hHeld ?_
        simp only [Act.put, List.setIfInBounds_toArray, List.set_cons_zero, List.set_cons_succ]
        refine wpAnyH_take (i := 13) (v := v) rfl (by kernel_rfl) (by kernel_rfl) (by kernel_rfl) (fun _ _ _ h => h) (Or.inl ⟨by rfl, by intro w hSw; (try dsimp only at hSw); go_simp⟩) hHeld ?_
        simp only [Act.put, List.setIfInBounds_toArray, List.set_cons_zero, List.set_cons_succ]
        refine wpAnyH_take (i := 14) (v := .int .i64 k) rfl (by kernel_rfl) (by kernel_rfl) (by kernel_rfl) (fun _ _ _ h => h) (Or.inl ⟨by rfl, by intro w hSw; (try dsimp only at hSw); go_simp⟩) hHeld ?_
        simp only [Act.put, List.setIfInBounds_toArray, List.set_cons_zero, List.set_cons_succ]
        refine wpAnyH_ready (rs := [15]) (by kernel_rfl) (by simp) ?_
        refine AllReadyH.cons rfl (fun K hK => ?_) AllReadyH.nil
        go_simp
        refine hK.out _ _ ⟨km2A, kf2A, ku2A⟩ (fun hHeld => ?_)
        clear hK K
        refine wpAnyH_ready (rs := [16]) (by kernel_rfl) (by simp) ?_
        refine AllReadyH.cons rfl (fun K hK => ?_) AllReadyH.nil
        refine step_append_lies _ (by rfl) _ _ _ (by rfl) (W.heap.size + 3) 3 i0 _ 1 8 Try.underlying45 hi0 hz0 hz1 hz2 rfl (by omega) v rowA.length (rowA.map (Value.int .i64)) (by rfl) ((hoA.alloc _).drew)
              ⟨w1.heap.size, 0, none⟩ 1 1 [.int .i64 k] (by rfl) (by rfl) (World.news_of_block (cs := #[.int .i64 k]) (t := 3) (fr := (0, 0)) hnbA) (by simp [Value.oneCell'])
              (by omega) (by unfold maxLen; omega) (by omega) (by simp; omega) (w1.heap.size + 1) (by simp) ?_
        intro gA capA wqA hownA hgrowA hatA hltA
        have hb3A : wqA.heap[bu]? = some (.cells vs.toArray 45) := (hgrowA.block bu (by simp; omega) (Ne.symm (fun e => n2A e))).trans hbuA
        have fzA : wqA.frozen? ⟨bu, A, none⟩ = false := frozen_of_row wqA bu A _ _ hb3A
        have czA : wqA.cell? ⟨bu, A, none⟩ = some v := by rw [cell_of_row wqA bu A _ _ _ hb3A]; simpa using hvA
        have h53A : wqA.heap[b5]? = some (.cells #[.int .i64 kd, .int .i64 A, .int .i64 tb] 42) := (hgrowA.block b5 (by simp; omega) (Ne.symm (fun e => n3A e))).trans hh2A
        have km3A : wqA.cell? ⟨W.heap.size + 1 + 1, 3, none⟩ = some (.slice (some ⟨bu, 0, none⟩) len len) := (hgrowA.cell_far _ (by simp; omega) (Ne.symm (fun e => n1A e))).trans km2A
        have kf3A : wqA.cell? ⟨b5, 1, none⟩ = some (.int .i64 A) := by rw [cell_of_row _ _ 1 _ _ _ h53A]; rfl
        refine hK.out _ _ ⟨km3A, kf3A, czA⟩ (fun hHeld => ?_)
        clear hK K
        simp only [Act.put, List.setIfInBounds_toArray, List.set_cons_zero, List.set_cons_succ]
        refine wpAnyH_take (i := 17) (v := .pointer (some ⟨bu, A, none⟩)) rfl (by kernel_rfl) (by kernel_rfl) (by kernel_rfl) (fun _ _ _ h => h) (Or.inl ⟨by rfl, by intro w hSw; (try dsimp only at hSw); go_simp⟩) hHeld ?_
        simp only [Act.put, List.setIfInBounds_toArray, List.set_cons_zero, List.set_cons_succ]
        refine wpAnyH_done (by kernel_rfl) ?_ _
        unfold LastQ
        go_simp
        have hat2A : v.ownBlock = some gA ∨ w1.heap.size ≤ gA := hatA.imp id (fun e => by omega)
        have hgA : w1.grownBy wqA v.ownBlock := (World.grownBy_alloc w1 (.cells #[.int .i64 k] 3) _).trans ⟨hgrowA.os, hgrowA.tape, hgrowA.output, hgrowA.size, hgrowA.block⟩
        have IB := IA.put hvA (k := k) (g := gA) (cap := capA) hgA (by rw [hrowA]; exact hownA) hat2A
        rw [hrowA] at IB
        have hhB : (wqA.setCell ⟨bu, A, none⟩ (.slice (some ⟨gA, 0, none⟩) (rowA.length + 1) capA)).heap[b5]? = some (.cells #[.int .i64 kd, .int .i64 A, .int .i64 tb] 42) := (heap_setCell_other wqA ⟨bu, A, none⟩ b5 _ (show b5 ≠ bu by omega)).trans h53A
        have ltB : b5 < (wqA.setCell ⟨bu, A, none⟩ (.slice (some ⟨gA, 0, none⟩) (rowA.length + 1) capA)).heap.size := (Array.getElem?_eq_some_iff.1 hhB).1
        obtain ⟨vsB, hvsB⟩ : ∃ x, x = vs.set A (.slice (some ⟨gA, 0, none⟩) (rowA.length + 1) capA) := ⟨_, rfl⟩
        have nbB : ∀ (j : Nat) (v : Value), vsB[j]? = some v → v.ownBlock ≠ some b5 := by
          intro j u hu
          rw [hvsB, List.getElem?_set] at hu
          by_cases hj : A = j
          · rw [if_pos hj] at hu
            split at hu
            · cases hu
              intro e
              have e : gA = b5 := by simpa [Value.ownBlock] using e
              rcases hat2A with h | h
              · rw [e] at h; exact n3A h
              · omega
            · cases hu
          · rw [if_neg hj] at hu; exact nbA j u hu
        rw [← hvsB] at IB
        obtain ⟨B, hwB⟩ : ∃ x, x = wqA.setCell ⟨bu, A, none⟩ (.slice (some ⟨gA, 0, none⟩) (rowA.length + 1) capA) := ⟨_, rfl⟩
        rw [← hwB] at IB hhB ltB ⊢
        clear hwB hvsB hHeld kmA kfA kuA km2A kf2A ku2A hnbA hm2A hbuA hh2A hb3A fzA czA h53A km3A kf3A hownA hgrowA hatA hat2A hgA hltA hbdA hoA hhA nbA
        have kzB : B.cell? ⟨b5, 0, none⟩ = some (.int .i64 kd) := by rw [cell_of_row _ _ 0 _ _ _ hhB]; rfl
        have hib2 := IB.hu
        by_cases h5 : kd = 5
        · obtain ⟨d1, d2⟩ := b0 h5
          obtain ⟨C, hCe⟩ : ∃ C : Nat, (C : Int) = tb := ⟨tb.toNat, by omega⟩
          subst hCe
          have hCl : C < len := by omega
          obtain ⟨v2, hvB⟩ : ∃ v2, vsB[C]? = some v2 := ⟨_, List.getElem?_eq_getElem (by rw [IB.lenv]; exact hCl)⟩
          subst h5
          go_wp2_with fail
          have kmB : B.cell? ⟨W.heap.size + 1 + 1, 3, none⟩ = some (.slice (some ⟨bu, 0, none⟩) len len) := by rw [cell_of_row B _ 3 _ _ _ IB.cm]; rfl
          have kfB : B.cell? ⟨b5, 2, none⟩ = some (.int .i64 C) := by rw [cell_of_row B b5 2 _ _ _ hhB]; rfl
          have kuB : B.cell? ⟨bu, C, none⟩ = some v2 := by rw [cell_of_row B _ C _ _ _ IB.cu]; simpa using hvB
          have hoB := IB.own C v2 hvB
          have hbdB := IB.bd C
          obtain ⟨rowB, hrowB⟩ : ∃ r, (addU (useU T len k) A k).getD C [] = r := ⟨_, rfl⟩
          rw [hrowB] at hoB hbdB
          have n1B : v2.ownBlock ≠ some (W.heap.size + 1 + 1) := own_ne hoB (.inl (by omega))
          have n2B : v2.ownBlock ≠ some bu := own_ne hoB (.inl (by omega))
          have n3B : v2.ownBlock ≠ some b5 := nbB C v2 hvB
          have hxB := IB.big
          have hm2B : (B.alloc (.cells #[.int .i64 k] 3)).heap[W.heap.size + 1 + 1]? = some (.cells #[.slice (some ⟨xb, xo, none⟩) len cap, .slice (some ⟨bi, 0, none⟩) len len, .slice none 0 0, .slice (some ⟨bu, 0, none⟩) len len] 86) := (heap_alloc_old B _ (by omega)).trans IB.cm
          have hbuB : (B.alloc (.cells #[.int .i64 k] 3)).heap[bu]? = some (.cells vsB.toArray 45) := (heap_alloc_old B _ (by omega)).trans IB.cu
          have hh2B : (B.alloc (.cells #[.int .i64 k] 3)).heap[b5]? = some (.cells #[.int .i64 5, .int .i64 A, .int .i64 C] 42) := (heap_alloc_old B _ ltB).trans hhB
          have km2B : (B.alloc (.cells #[.int .i64 k] 3)).drew.cell? ⟨W.heap.size + 1 + 1, 3, none⟩ = some (.slice (some ⟨bu, 0, none⟩) len len) := by
            show (B.alloc (.cells #[.int .i64 k] 3)).cell? _ = _
            rw [cell_of_row _ _ 3 _ _ _ hm2B]; rfl
          have kf2B : (B.alloc (.cells #[.int .i64 k] 3)).drew.cell? ⟨b5, 2, none⟩ = some (.int .i64 C) := by
            show (B.alloc (.cells #[.int .i64 k] 3)).cell? _ = _
            rw [cell_of_row _ _ 2 _ _ _ hh2B]; rfl
          have ku2B : (B.alloc (.cells #[.int .i64 k] 3)).drew.cell? ⟨bu, C, none⟩ = some v2 := by
            show (B.alloc (.cells #[.int .i64 k] 3)).cell? _ = _
            rw [cell_of_row _ bu C _ _ _ hbuB]; simpa using hvB
          have hnbB : (B.alloc (.cells #[.int .i64 k] 3)).heap[B.heap.size]? = some (.cells #[.int .i64 k] 3) := heap_alloc_new B _
          have hHeld : B.drew.cell? ⟨W.heap.size + 1 + 1, 3, none⟩ = some (.slice (some ⟨bu, 0, none⟩) len len) ∧ B.drew.cell? ⟨b5, 2, none⟩ = some (.int .i64 C) ∧ B.drew.cell? ⟨bu, C, none⟩ = some v2 := ⟨kmB, kfB, kuB⟩
          refine wp_region_lastH (n := 18) (S := fun w' => w'.cell? ⟨W.heap.size + 1 + 1, 3, none⟩ = some (.slice (some ⟨bu, 0, none⟩) len len) ∧ w'.cell? ⟨b5, 2, none⟩ = some (.int .i64 C) ∧ w'.cell? ⟨bu, C, none⟩ = some v2) (by kernel_rfl) rfl rfl (by kernel_rfl) ?_
          change wpAnyH _ _ _ _ _ _ _ _ B.drew
          simp only [List.pop_toArray, List.dropLast]
          refine wpAnyH_take (i := 0) (v := .pointer (some ⟨W.heap.size + 1 + 1, 0, none⟩)) rfl (by kernel_rfl) (by kernel_rfl) (by kernel_rfl) (fun _ _ _ h => h) (Or.inl ⟨by rfl, by intro w hSw; (try dsimp only at hSw); go_simp⟩) hHeld ?_
          simp only [Act.put, List.setIfInBounds_toArray, List.set_cons_zero, List.set_cons_succ]
          refine wpAnyH_take (i := 1) (v := .pointer (some ⟨W.heap.size + 1 + 1, 0, none⟩)) rfl (by kernel_rfl) (by kernel_rfl) (by kernel_rfl) (fun _ _ _ h => h) (Or.inl ⟨by rfl, by intro w hSw; (try dsimp only at hSw); go_simp⟩) hHeld ?_
          simp only [Act.put, List.setIfInBounds_toArray, List.set_cons_zero, List.set_cons_succ]
          refine wpAnyH_take (i := 2) (v := .pointer (some ⟨W.heap.size + 1 + 1, 3, none⟩)) rfl (by kernel_rfl) (by kernel_rfl) (by kernel_rfl) (fun _ _ _ h => h) (Or.inl ⟨by rfl, by intro w hSw; (try dsimp only at hSw); go_simp⟩) hHeld ?_
          simp only [Act.put, List.setIfInBounds_toArray, List.set_cons_zero, List.set_cons_succ]
          refine wpAnyH_take (i := 3) (v := .slice (some ⟨bu, 0, none⟩) len len) rfl (by kernel_rfl) (by kernel_rfl) (by kernel_rfl) (fun _ _ _ h => h) (Or.inl ⟨by rfl, by intro w hSw; (try dsimp only at hSw); go_simp⟩) hHeld ?_
          simp only [Act.put, List.setIfInBounds_toArray, List.set_cons_zero, List.set_cons_succ]
          refine wpAnyH_take (i := 4) (v := .pointer (some ⟨b5, 2, none⟩)) rfl (by kernel_rfl) (by kernel_rfl) (by kernel_rfl) (fun _ _ _ h => h) (Or.inl ⟨by rfl, by intro w hSw; (try dsimp only at hSw); go_simp⟩) hHeld ?_
          simp only [Act.put, List.setIfInBounds_toArray, List.set_cons_zero, List.set_cons_succ]
          refine wpAnyH_take (i := 5) (v := .int .i64 C) rfl (by kernel_rfl) (by kernel_rfl) (by kernel_rfl) (fun _ _ _ h => h) (Or.inl ⟨by rfl, by intro w hSw; (try dsimp only at hSw); go_simp⟩) hHeld ?_
          simp only [Act.put, List.setIfInBounds_toArray, List.set_cons_zero, List.set_cons_succ]
          refine wpAnyH_take (i := 6) (v := .pointer (some ⟨W.heap.size + 1 + 1, 0, none⟩)) rfl (by kernel_rfl) (by kernel_rfl) (by kernel_rfl) (fun _ _ _ h => h) (Or.inl ⟨by rfl, by intro w hSw; (try dsimp only at hSw); go_simp⟩) hHeld ?_
          simp only [Act.put, List.setIfInBounds_toArray, List.set_cons_zero, List.set_cons_succ]
          refine wpAnyH_take (i := 7) (v := .pointer (some ⟨W.heap.size + 1 + 1, 0, none⟩)) rfl (by kernel_rfl) (by kernel_rfl) (by kernel_rfl) (fun _ _ _ h => h) (Or.inl ⟨by rfl, by intro w hSw; (try dsimp only at hSw); go_simp⟩) hHeld ?_
          simp only [Act.put, List.setIfInBounds_toArray, List.set_cons_zero, List.set_cons_succ]
          refine wpAnyH_take (i := 8) (v := .pointer (some ⟨W.heap.size + 1 + 1, 3, none⟩)) rfl (by kernel_rfl) (by kernel_rfl) (by kernel_rfl) (fun _ _ _ h => h) (Or.inl ⟨by rfl, by intro w hSw; (try dsimp only at hSw); go_simp⟩) hHeld ?_
          simp only [Act.put, List.setIfInBounds_toArray, List.set_cons_zero, List.set_cons_succ]
          refine wpAnyH_take (i := 9) (v := .slice (some ⟨bu, 0, none⟩) len len) rfl (by kernel_rfl) (by kernel_rfl) (by kernel_rfl) (fun _ _ _ h => h) (Or.inl ⟨by rfl, by intro w hSw; (try dsimp only at hSw); go_simp⟩) hHeld ?_
          simp only [Act.put, List.setIfInBounds_toArray, List.set_cons_zero, List.set_cons_succ]
          refine wpAnyH_take (i := 10) (v := .pointer (some ⟨b5, 2, none⟩)) rfl (by kernel_rfl) (by kernel_rfl) (by kernel_rfl) (fun _ _ _ h => h) (Or.inl ⟨by rfl, by intro w hSw; (try dsimp only at hSw); go_simp⟩) hHeld ?_
          simp only [Act.put, List.setIfInBounds_toArray, List.set_cons_zero, List.set_cons_succ]
          refine wpAnyH_take (i := 11) (v := .int .i64 C) rfl (by kernel_rfl) (by kernel_rfl) (by kernel_rfl) (fun _ _ _ h => h) (Or.inl ⟨by rfl, by intro w hSw; (try dsimp only at hSw); go_simp⟩) hHeld ?_
          simp only [Act.put, List.setIfInBounds_toArray, List.set_cons_zero, List.set_cons_succ]
          refine wpAnyH_take (i := 12) (v := .pointer (some ⟨bu, C, none⟩)) rfl (by kernel_rfl) (by kernel_rfl) (by kernel_rfl) (fun _ _ _ h => h) (Or.inl ⟨by rfl, by intro w hSw; (try dsimp only at hSw); go_simp⟩) hHeld ?_
          simp only [Act.put, List.setIfInBounds_toArray, List.set_cons_zero, List.set_cons_succ]
          refine wpAnyH_take (i := 13) (v := v2) rfl (by kernel_rfl) (by kernel_rfl) (by kernel_rfl) (fun _ _ _ h => h) (Or.inl ⟨by rfl, by intro w hSw; (try dsimp only at hSw); go_simp⟩) hHeld ?_
          simp only [Act.put, List.setIfInBounds_toArray, List.set_cons_zero, List.set_cons_succ]
          refine wpAnyH_take (i := 14) (v := .int .i64 k) rfl (by kernel_rfl) (by kernel_rfl) (by kernel_rfl) (fun _ _ _ h => h) (Or.inl ⟨by rfl, by intro w hSw; (try dsimp only at hSw); go_simp⟩) hHeld ?_
          simp only [Act.put, List.setIfInBounds_toArray, List.set_cons_zero, List.set_cons_succ]
          refine wpAnyH_ready (rs := [15]) (by kernel_rfl) (by simp) ?_
          refine AllReadyH.cons rfl (fun K hK => ?_) AllReadyH.nil
          go_simp
          refine hK.out _ _ ⟨km2B, kf2B, ku2B⟩ (fun hHeld => ?_)
          clear hK K
          refine wpAnyH_ready (rs := [16]) (by kernel_rfl) (by simp) ?_
          refine AllReadyH.cons rfl (fun K hK => ?_) AllReadyH.nil
          refine step_append_lies _ (by rfl) _ _ _ (by rfl) (W.heap.size + 3) 3 i0 _ 1 8 Try.underlying45 hi0 hz0 hz1 hz2 rfl (by omega) v2 rowB.length (rowB.map (Value.int .i64)) (by rfl) ((hoB.alloc _).drew)
                ⟨B.heap.size, 0, none⟩ 1 1 [.int .i64 k] (by rfl) (by rfl) (World.news_of_block (cs := #[.int .i64 k]) (t := 3) (fr := (0, 0)) hnbB) (by simp [Value.oneCell'])
                (by omega) (by unfold maxLen; omega) (by omega) (by simp; omega) (B.heap.size + 1) (by simp) ?_
          intro gB capB wqB hownB hgrowB hatB hltB
          have hb3B : wqB.heap[bu]? = some (.cells vsB.toArray 45) := (hgrowB.block bu (by simp; omega) (Ne.symm (fun e => n2B e))).trans hbuB
          have fzB : wqB.frozen? ⟨bu, C, none⟩ = false := frozen_of_row wqB bu C _ _ hb3B
          have czB : wqB.cell? ⟨bu, C, none⟩ = some v2 := by rw [cell_of_row wqB bu C _ _ _ hb3B]; simpa using hvB
          have h53B : wqB.heap[b5]? = some (.cells #[.int .i64 5, .int .i64 A, .int .i64 C] 42) := (hgrowB.block b5 (by simp; omega) (Ne.symm (fun e => n3B e))).trans hh2B
          have km3B : wqB.cell? ⟨W.heap.size + 1 + 1, 3, none⟩ = some (.slice (some ⟨bu, 0, none⟩) len len) := (hgrowB.cell_far _ (by simp; omega) (Ne.symm (fun e => n1B e))).trans km2B
          have kf3B : wqB.cell? ⟨b5, 2, none⟩ = some (.int .i64 C) := by rw [cell_of_row _ _ 2 _ _ _ h53B]; rfl
          refine hK.out _ _ ⟨km3B, kf3B, czB⟩ (fun hHeld => ?_)
          clear hK K
          simp only [Act.put, List.setIfInBounds_toArray, List.set_cons_zero, List.set_cons_succ]
          refine wpAnyH_take (i := 17) (v := .pointer (some ⟨bu, C, none⟩)) rfl (by kernel_rfl) (by kernel_rfl) (by kernel_rfl) (fun _ _ _ h => h) (Or.inl ⟨by rfl, by intro w hSw; (try dsimp only at hSw); go_simp⟩) hHeld ?_
          simp only [Act.put, List.setIfInBounds_toArray, List.set_cons_zero, List.set_cons_succ]
          refine wpAnyH_done (by kernel_rfl) ?_ _
          unfold LastQ
          go_simp
          have hat2B : v2.ownBlock = some gB ∨ B.heap.size ≤ gB := hatB.imp id (fun e => by omega)
          have hgB : B.grownBy wqB v2.ownBlock := (World.grownBy_alloc B (.cells #[.int .i64 k] 3) _).trans ⟨hgrowB.os, hgrowB.tape, hgrowB.output, hgrowB.size, hgrowB.block⟩
          have ID := IB.put hvB (k := k) (g := gB) (cap := capB) hgB (by rw [hrowB]; exact hownB) hat2B
          rw [hrowB] at ID
          have hhD : (wqB.setCell ⟨bu, C, none⟩ (.slice (some ⟨gB, 0, none⟩) (rowB.length + 1) capB)).heap[b5]? = some (.cells #[.int .i64 5, .int .i64 A, .int .i64 C] 42) := (heap_setCell_other wqB ⟨bu, C, none⟩ b5 _ (show b5 ≠ bu by omega)).trans h53B
          have ltD : b5 < (wqB.setCell ⟨bu, C, none⟩ (.slice (some ⟨gB, 0, none⟩) (rowB.length + 1) capB)).heap.size := (Array.getElem?_eq_some_iff.1 hhD).1
          obtain ⟨vsD, hvsD⟩ : ∃ x, x = vsB.set C (.slice (some ⟨gB, 0, none⟩) (rowB.length + 1) capB) := ⟨_, rfl⟩
          have nbD : ∀ (j : Nat) (v : Value), vsD[j]? = some v → v.ownBlock ≠ some b5 := by
            intro j u hu
            rw [hvsD, List.getElem?_set] at hu
            by_cases hj : C = j
            · rw [if_pos hj] at hu
              split at hu
              · cases hu
                intro e
                have e : gB = b5 := by simpa [Value.ownBlock] using e
                rcases hat2B with h | h
                · rw [e] at h; exact n3B h
                · omega
              · cases hu
            · rw [if_neg hj] at hu; exact nbB j u hu
          rw [← hvsD] at ID
          obtain ⟨D, hwD⟩ : ∃ x, x = wqB.setCell ⟨bu, C, none⟩ (.slice (some ⟨gB, 0, none⟩) (rowB.length + 1) capB) := ⟨_, rfl⟩
          rw [← hwD] at ID hhD ltD ⊢
          clear hwD hvsD hHeld kmB kfB kuB km2B kf2B ku2B hnbB hm2B hbuB hh2B hb3B fzB czB h53B km3B kf3B hownB hgrowB hatB hat2B hgB hltB hbdB hoB hhB nbB
          go_wp2
          refine ⟨⟨k + 1, bi, bu, vsD, by omega, by simp, ?_⟩, by simp only [iv]; omega⟩
          rw [useU, hT, stepU_five]
          exact ID
        · have h5b : (kd == 5) = false := by simpa using h5
          go_wp2
          refine ⟨⟨k + 1, bi, bu, vsB, by omega, by simp, ?_⟩, by simp only [iv]; omega⟩
          rw [useU, hT, stepU_else _ _ _ _ h1 h5]
          exact IB.up (by omega)
    · have hke : k = len := by omega
      subst hke
      go_wp2
      go_ret
      exact ⟨by simp, bi, bu, vs, I⟩
  case atStart =>
    obtain ⟨t1, t2, t3, t4⟩ := tri W (.cells (madeCells #[.slice none 0 0] len) 45) (.cells (madeCells #[.bool false] len) 4) (.cells #[.slice xa len cap, .slice (some ⟨W.heap.size + 1, 0, none⟩) len len, .slice none 0 0, .slice (some ⟨W.heap.size, 0, none⟩) len len] 86)
    exact ⟨0, W.heap.size + 1, W.heap.size, _, Nat.zero_le _, rfl, OInv.start t1 (by omega) (by omega) (by omega) t4 t3 t2⟩
  case round =>
    obtain ⟨k, bi, bu, vs, hk, rfl, I⟩ := hrel
    by_cases hlt : k < len
    · have e := hxa (by omega)
      subst e
      obtain ⟨⟨kd, ta, tb⟩, hT⟩ : ∃ t, T k = t := ⟨_, rfl⟩
      have c0 := hc0 k hlt
      have c1 := hc1 k hlt
      have c2 := hc2 k hlt
      have a0 := hA k hlt
      have b0 := hB k hlt
      rw [hT] at c0 c1 c2 a0 b0
      have hxb : xb < W.heap.size := World.block_lt_of_cell? W _ c0
      rw [← I.fr.cell_far _ hxb (by simp)] at c0 c1 c2
      have hk0 : (0 : Int) ≤ (k : Int) := Int.natCast_nonneg _
      have hk1 : (k : Int) < (len : Int) := by omega
      clear hc0 hc1 hc2 hA hB hxa
      by_cases h1 : kd = 1
      · subst h1
        go_wp2
        refine ⟨⟨k + 1, bi, bu, vs, by omega, by simp, ?_⟩, by simp only [iv]; omega⟩
        have := (I.grown (World.grownBy_alloc wr (Obj.cells #[.int .i64 1, .int .i64 ta, .int .i64 tb] 42) none)).up (show 2 * k ≤ 2 * (k + 1) by omega)
        rw [useU, hT, stepU_one]
        exact this
      · obtain ⟨a1, a2⟩ := a0 h1
        simp only at a1 a2 c0 c1 c2 b0 h1
        obtain ⟨A, hAe⟩ : ∃ A : Nat, (A : Int) = ta := ⟨ta.toNat, by omega⟩
        subst hAe
        have hAl : A < len := by omega
        obtain ⟨v, hvA⟩ : ∃ v, vs[A]? = some v := ⟨_, List.getElem?_eq_getElem (by rw [I.lenv]; exact hAl)⟩
        go_wp2_with fail
        have hbg := I.big
        have hib := I.hu
        have IA := I.grown (World.grownBy_alloc wr (Obj.cells #[.int .i64 kd, .int .i64 A, .int .i64 tb] 42) none)
        have hhA := heap_alloc_new wr (Obj.cells #[.int .i64 kd, .int .i64 A, .int .i64 tb] 42)
        have ltA : wr.heap.size < (wr.alloc (Obj.cells #[.int .i64 kd, .int .i64 A, .int .i64 tb] 42)).heap.size := by simp
        obtain ⟨b5, hb5⟩ : ∃ b5, b5 = wr.heap.size := ⟨_, rfl⟩
        have nbA : ∀ (j : Nat) (v : Value), vs[j]? = some v → v.ownBlock ≠ some b5 := fun j v hj => own_ne (I.own j v hj) (.inr (by omega))
        obtain ⟨w1, hw1⟩ : ∃ w1, w1 = wr.alloc (Obj.cells #[.int .i64 kd, .int .i64 A, .int .i64 tb] 42) := ⟨_, rfl⟩
        rw [← hw1] at IA hhA ltA ⊢
        rw [← hb5] at hhA ltA hbg ⊢
        clear hw1 hb5 c0 c1 c2
        have kmA : w1.cell? ⟨W.heap.size + 1 + 1, 3, none⟩ = some (.slice (some ⟨bu, 0, none⟩) len len) := by rw [cell_of_row w1 _ 3 _ _ _ IA.cm]; rfl
        have kfA : w1.cell? ⟨b5, 1, none⟩ = some (.int .i64 A) := by rw [cell_of_row w1 b5 1 _ _ _ hhA]; rfl
        have kuA : w1.cell? ⟨bu, A, none⟩ = some v := by rw [cell_of_row w1 _ A _ _ _ IA.cu]; simpa using hvA
        have hoA := IA.own A v hvA
        have hbdA := IA.bd A
        obtain ⟨rowA, hrowA⟩ : ∃ r, (useU T len k).getD A [] = r := ⟨_, rfl⟩
        rw [hrowA] at hoA hbdA
        have n1A : v.ownBlock ≠ some (W.heap.size + 1 + 1) := own_ne hoA (.inl (by omega))
        have n2A : v.ownBlock ≠ some bu := own_ne hoA (.inl (by omega))
        have n3A : v.ownBlock ≠ some b5 := nbA A v hvA
        have hxA := IA.big
        have hm2A : (w1.alloc (.cells #[.int .i64 k] 3)).heap[W.heap.size + 1 + 1]? = some (.cells #[.slice (some ⟨xb, xo, none⟩) len cap, .slice (some ⟨bi, 0, none⟩) len len, .slice none 0 0, .slice (some ⟨bu, 0, none⟩) len len] 86) := (heap_alloc_old w1 _ (by omega)).trans IA.cm
        have hbuA : (w1.alloc (.cells #[.int .i64 k] 3)).heap[bu]? = some (.cells vs.toArray 45) := (heap_alloc_old w1 _ (by omega)).trans IA.cu
        have hh2A : (w1.alloc (.cells #[.int .i64 k] 3)).heap[b5]? = some (.cells #[.int .i64 kd, .int .i64 A, .int .i64 tb] 42) := (heap_alloc_old w1 _ ltA).trans hhA
        have km2A : (w1.alloc (.cells #[.int .i64 k] 3)).drew.cell? ⟨W.heap.size + 1 + 1, 3, none⟩ = some (.slice (some ⟨bu, 0, none⟩) len len) := by
          show (w1.alloc (.cells #[.int .i64 k] 3)).cell? _ = _
          rw [cell_of_row _ _ 3 _ _ _ hm2A]; rfl
        have kf2A : (w1.alloc (.cells #[.int .i64 k] 3)).drew.cell? ⟨b5, 1, none⟩ = some (.int .i64 A) := by
          show (w1.alloc (.cells #[.int .i64 k] 3)).cell? _ = _
          rw [cell_of_row _ _ 1 _ _ _ hh2A]; rfl
        have ku2A : (w1.alloc (.cells #[.int .i64 k] 3)).drew.cell? ⟨bu, A, none⟩ = some v := by
          show (w1.alloc (.cells #[.int .i64 k] 3)).cell? _ = _
          rw [cell_of_row _ bu A _ _ _ hbuA]; simpa using hvA
        have hnbA : (w1.alloc (.cells #[.int .i64 k] 3)).heap[w1.heap.size]? = some (.cells #[.int .i64 k] 3) := heap_alloc_new w1 _
        have hHeld : w1.drew.cell? ⟨W.heap.size + 1 + 1, 3, none⟩ = some (.slice (some ⟨bu, 0, none⟩) len len) ∧ w1.drew.cell? ⟨b5, 1, none⟩ = some (.int .i64 A) ∧ w1.drew.cell? ⟨bu, A, none⟩ = some v := ⟨kmA, kfA, kuA⟩
        refine wp_region_lastH (n := 18) (S := fun w' => w'.cell? ⟨W.heap.size + 1 + 1, 3, none⟩ = some (.slice (some ⟨bu, 0, none⟩) len len) ∧ w'.cell? ⟨b5, 1, none⟩ = some (.int .i64 A) ∧ w'.cell? ⟨bu, A, none⟩ = some v) (by kernel_rfl) rfl rfl (by kernel_rfl) ?_
        change wpAnyH _ _ _ _ _ _ _ _ w1.drew
        simp only [List.pop_toArray, List.dropLast]
        refine wpAnyH_take (i := 0) (v := .pointer (some ⟨W.heap.size + 1 + 1, 0, none⟩)) rfl (by kernel_rfl) (by kernel_rfl) (by kernel_rfl) (fun _ _ _ h => h) (Or.inl ⟨by rfl, by intro w hSw; (try dsimp only at hSw); go_simp⟩) hHeld ?_
        simp only [Act.put, List.setIfInBounds_toArray, List.set_cons_zero, List.set_cons_succ]
        refine wpAnyH_take (i := 1) (v := .pointer (some ⟨W.heap.size + 1 + 1, 0, none⟩)) rfl (by kernel_rfl) (by kernel_rfl) (by kernel_rfl) (fun _ _ _ h => h) (Or.inl ⟨by rfl, by intro w hSw; (try dsimp only at hSw); go_simp⟩) hHeld ?_
        simp only [Act.put, List.setIfInBounds_toArray, List.set_cons_zero, List.set_cons_succ]
        refine wpAnyH_take (i := 2) (v := .pointer (some ⟨W.heap.size + 1 + 1, 3, none⟩)) rfl (by kernel_rfl) (by kernel_rfl) (by kernel_rfl) (fun _ _ _ h => h) (Or.inl ⟨by rfl, by intro w hSw; (try dsimp only at hSw); go_simp⟩) hHeld ?_
        simp only [Act.put, List.setIfInBounds_toArray, List.set_cons_zero, List.set_cons_succ]
        refine wpAnyH_take (i := 3) (v := .slice (some ⟨bu, 0, none⟩) len len) rfl (by kernel_rfl) (by kernel_rfl) (by kernel_rfl) (fun _ _ _ h => h) (Or.inl ⟨by rfl, by intro w hSw; (try dsimp only at hSw); go_simp⟩) hHeld ?_
        simp only [Act.put, List.setIfInBounds_toArray, List.set_cons_zero, List.set_cons_succ]
        refine wpAnyH_take (i := 4) (v := .pointer (some ⟨b5, 1, none⟩)) rfl (by kernel_rfl) (by kernel_rfl) (by kernel_rfl) (fun _ _ _ h => h) (Or.inl ⟨by rfl, by intro w hSw; (try dsimp only at hSw); go_simp⟩) hHeld ?_
        simp only [Act.put, List.setIfInBounds_toArray, List.set_cons_zero, List.set_cons_succ]
        refine wpAnyH_take (i := 5) (v := .int .i64 A) rfl (by kernel_rfl) (by kernel_rfl) (by kernel_rfl) (fun _ _ _ h => h) (Or.inl ⟨by rfl, by intro w hSw; (try dsimp only at hSw); go_simp⟩) hHeld ?_
        simp only [Act.put, List.setIfInBounds_toArray, List.set_cons_zero, List.set_cons_succ]
        refine wpAnyH_take (i := 6) (v := .pointer (some ⟨W.heap.size + 1 + 1, 0, none⟩)) rfl (by kernel_rfl) (by kernel_rfl) (by kernel_rfl) (fun _ _ _ h => h) (Or.inl ⟨by rfl, by intro w hSw; (try dsimp only at hSw); go_simp⟩) hHeld ?_
        simp only [Act.put, List.setIfInBounds_toArray, List.set_cons_zero, List.set_cons_succ]
        refine wpAnyH_take (i := 7) (v := .pointer (some ⟨W.heap.size + 1 + 1, 0, none⟩)) rfl (by kernel_rfl) (by kernel_rfl) (by kernel_rfl) (fun _ _ _ h => h) (Or.inl ⟨by rfl, by intro w hSw; (try dsimp only at hSw); go_simp⟩) hHeld ?_
        simp only [Act.put, List.setIfInBounds_toArray, List.set_cons_zero, List.set_cons_succ]
        refine wpAnyH_take (i := 8) (v := .pointer (some ⟨W.heap.size + 1 + 1, 3, none⟩)) rfl (by kernel_rfl) (by kernel_rfl) (by kernel_rfl) (fun _ _ _ h => h) (Or.inl ⟨by rfl, by intro w hSw; (try dsimp only at hSw); go_simp⟩) hHeld ?_
        simp only [Act.put, List.setIfInBounds_toArray, List.set_cons_zero, List.set_cons_succ]
        refine wpAnyH_take (i := 9) (v := .slice (some ⟨bu, 0, none⟩) len len) rfl (by kernel_rfl) (by kernel_rfl) (by kernel_rfl) (fun _ _ _ h => h) (Or.inl ⟨by rfl, by intro w hSw; (try dsimp only at hSw); go_simp⟩) hHeld ?_
        simp only [Act.put, List.setIfInBounds_toArray, List.set_cons_zero, List.set_cons_succ]
        refine wpAnyH_take (i := 10) (v := .pointer (some ⟨b5, 1, none⟩)) rfl (by kernel_rfl) (by kernel_rfl) (by kernel_rfl) (fun _ _ _ h => h) (Or.inl ⟨by rfl, by intro w hSw; (try dsimp only at hSw); go_simp⟩) hHeld ?_
        simp only [Act.put, List.setIfInBounds_toArray, List.set_cons_zero, List.set_cons_succ]
        refine wpAnyH_take (i := 11) (v := .int .i64 A) rfl (by kernel_rfl) (by kernel_rfl) (by kernel_rfl) (fun _ _ _ h => h) (Or.inl ⟨by rfl, by intro w hSw; (try dsimp only at hSw); go_simp⟩) hHeld ?_
        simp only [Act.put, List.setIfInBounds_toArray, List.set_cons_zero, List.set_cons_succ]
        refine wpAnyH_take (i := 12) (v := .pointer (some ⟨bu, A, none⟩)) rfl (by kernel_rfl) (by kernel_rfl) (by kernel_rfl) (fun _ _ _ h => h) (Or.inl ⟨by rfl, by intro w hSw; (try dsimp only at hSw); go_simp⟩) hHeld ?_
        simp only [Act.put, List.setIfInBounds_toArray, List.set_cons_zero, List.set_cons_succ]
        refine wpAnyH_take (i := 13) (v := v) rfl (by kernel_rfl) (by kernel_rfl) (by kernel_rfl) (fun _ _ _ h => h) (Or.inl ⟨by rfl, by intro w hSw; (try dsimp only at hSw); go_simp⟩) hHeld ?_
        simp only [Act.put, List.setIfInBounds_toArray, List.set_cons_zero, List.set_cons_succ]
        refine wpAnyH_take (i := 14) (v := .int .i64 k) rfl (by kernel_rfl) (by kernel_rfl) (by kernel_rfl) (fun _ _ _ h => h) (Or.inl ⟨by rfl, by intro w hSw; (try dsimp only at hSw); go_simp⟩) hHeld ?_
        simp only [Act.put, List.setIfInBounds_toArray, List.set_cons_zero, List.set_cons_succ]
        refine wpAnyH_ready (rs := [15]) (by kernel_rfl) (by simp) ?_
        refine AllReadyH.cons rfl (fun K hK => ?_) AllReadyH.nil
        go_simp
        refine hK.out _ _ ⟨km2A, kf2A, ku2A⟩ (fun hHeld => ?_)
        clear hK K
        refine wpAnyH_ready (rs := [16]) (by kernel_rfl) (by simp) ?_
        refine AllReadyH.cons rfl (fun K hK => ?_) AllReadyH.nil
        refine step_append_lies _ (by rfl) _ _ _ (by rfl) (W.heap.size + 3) 3 i0 _ 1 8 Try.underlying45 hi0 hz0 hz1 hz2 rfl (by omega) v rowA.length (rowA.map (Value.int .i64)) (by rfl) ((hoA.alloc _).drew)
              ⟨w1.heap.size, 0, none⟩ 1 1 [.int .i64 k] (by rfl) (by rfl) (World.news_of_block (cs := #[.int .i64 k]) (t := 3) (fr := (0, 0)) hnbA) (by simp [Value.oneCell'])
              (by omega) (by unfold maxLen; omega) (by omega) (by simp; omega) (w1.heap.size + 1) (by simp) ?_
        intro gA capA wqA hownA hgrowA hatA hltA
        have hb3A : wqA.heap[bu]? = some (.cells vs.toArray 45) := (hgrowA.block bu (by simp; omega) (Ne.symm (fun e => n2A e))).trans hbuA
        have fzA : wqA.frozen? ⟨bu, A, none⟩ = false := frozen_of_row wqA bu A _ _ hb3A
        have czA : wqA.cell? ⟨bu, A, none⟩ = some v := by rw [cell_of_row wqA bu A _ _ _ hb3A]; simpa using hvA
        have h53A : wqA.heap[b5]? = some (.cells #[.int .i64 kd, .int .i64 A, .int .i64 tb] 42) := (hgrowA.block b5 (by simp; omega) (Ne.symm (fun e => n3A e))).trans hh2A
        have km3A : wqA.cell? ⟨W.heap.size + 1 + 1, 3, none⟩ = some (.slice (some ⟨bu, 0, none⟩) len len) := (hgrowA.cell_far _ (by simp; omega) (Ne.symm (fun e => n1A e))).trans km2A
        have kf3A : wqA.cell? ⟨b5, 1, none⟩ = some (.int .i64 A) := by rw [cell_of_row _ _ 1 _ _ _ h53A]; rfl
        refine hK.out _ _ ⟨km3A, kf3A, czA⟩ (fun hHeld => ?_)
        clear hK K
        simp only [Act.put, List.setIfInBounds_toArray, List.set_cons_zero, List.set_cons_succ]
        refine wpAnyH_take (i := 17) (v := .pointer (some ⟨bu, A, none⟩)) rfl (by kernel_rfl) (by kernel_rfl) (by kernel_rfl) (fun _ _ _ h => h) (Or.inl ⟨by rfl, by intro w hSw; (try dsimp only at hSw); go_simp⟩) hHeld ?_
        simp only [Act.put, List.setIfInBounds_toArray, List.set_cons_zero, List.set_cons_succ]
        refine wpAnyH_done (by kernel_rfl) ?_ _
        unfold LastQ
        go_simp
        have hat2A : v.ownBlock = some gA ∨ w1.heap.size ≤ gA := hatA.imp id (fun e => by omega)
        have hgA : w1.grownBy wqA v.ownBlock := (World.grownBy_alloc w1 (.cells #[.int .i64 k] 3) _).trans ⟨hgrowA.os, hgrowA.tape, hgrowA.output, hgrowA.size, hgrowA.block⟩
        have IB := IA.put hvA (k := k) (g := gA) (cap := capA) hgA (by rw [hrowA]; exact hownA) hat2A
        rw [hrowA] at IB
        have hhB : (wqA.setCell ⟨bu, A, none⟩ (.slice (some ⟨gA, 0, none⟩) (rowA.length + 1) capA)).heap[b5]? = some (.cells #[.int .i64 kd, .int .i64 A, .int .i64 tb] 42) := (heap_setCell_other wqA ⟨bu, A, none⟩ b5 _ (show b5 ≠ bu by omega)).trans h53A
        have ltB : b5 < (wqA.setCell ⟨bu, A, none⟩ (.slice (some ⟨gA, 0, none⟩) (rowA.length + 1) capA)).heap.size := (Array.getElem?_eq_some_iff.1 hhB).1
        obtain ⟨vsB, hvsB⟩ : ∃ x, x = vs.set A (.slice (some ⟨gA, 0, none⟩) (rowA.length + 1) capA) := ⟨_, rfl⟩
        have nbB : ∀ (j : Nat) (v : Value), vsB[j]? = some v → v.ownBlock ≠ some b5 := by
          intro j u hu
          rw [hvsB, List.getElem?_set] at hu
          by_cases hj : A = j
          · rw [if_pos hj] at hu
            split at hu
            · cases hu
              intro e
              have e : gA = b5 := by simpa [Value.ownBlock] using e
              rcases hat2A with h | h
              · rw [e] at h; exact n3A h
              · omega
            · cases hu
          · rw [if_neg hj] at hu; exact nbA j u hu
        rw [← hvsB] at IB
        obtain ⟨B, hwB⟩ : ∃ x, x = wqA.setCell ⟨bu, A, none⟩ (.slice (some ⟨gA, 0, none⟩) (rowA.length + 1) capA) := ⟨_, rfl⟩
        rw [← hwB] at IB hhB ltB ⊢
        clear hwB hvsB hHeld kmA kfA kuA km2A kf2A ku2A hnbA hm2A hbuA hh2A hb3A fzA czA h53A km3A kf3A hownA hgrowA hatA hat2A hgA hltA hbdA hoA hhA nbA
        have kzB : B.cell? ⟨b5, 0, none⟩ = some (.int .i64 kd) := by rw [cell_of_row _ _ 0 _ _ _ hhB]; rfl
        have hib2 := IB.hu
        by_cases h5 : kd = 5
        · obtain ⟨d1, d2⟩ := b0 h5
          obtain ⟨C, hCe⟩ : ∃ C : Nat, (C : Int) = tb := ⟨tb.toNat, by omega⟩
          subst hCe
          have hCl : C < len := by omega
          obtain ⟨v2, hvB⟩ : ∃ v2, vsB[C]? = some v2 := ⟨_, List.getElem?_eq_getElem (by rw [IB.lenv]; exact hCl)⟩
          subst h5
          go_wp2_with fail
          have kmB : B.cell? ⟨W.heap.size + 1 + 1, 3, none⟩ = some (.slice (some ⟨bu, 0, none⟩) len len) := by rw [cell_of_row B _ 3 _ _ _ IB.cm]; rfl
          have kfB : B.cell? ⟨b5, 2, none⟩ = some (.int .i64 C) := by rw [cell_of_row B b5 2 _ _ _ hhB]; rfl
          have kuB : B.cell? ⟨bu, C, none⟩ = some v2 := by rw [cell_of_row B _ C _ _ _ IB.cu]; simpa using hvB
          have hoB := IB.own C v2 hvB
          have hbdB := IB.bd C
          obtain ⟨rowB, hrowB⟩ : ∃ r, (addU (useU T len k) A k).getD C [] = r := ⟨_, rfl⟩
          rw [hrowB] at hoB hbdB
          have n1B : v2.ownBlock ≠ some (W.heap.size + 1 + 1) := own_ne hoB (.inl (by omega))
          have n2B : v2.ownBlock ≠ some bu := own_ne hoB (.inl (by omega))
          have n3B : v2.ownBlock ≠ some b5 := nbB C v2 hvB
          have hxB := IB.big
          have hm2B : (B.alloc (.cells #[.int .i64 k] 3)).heap[W.heap.size + 1 + 1]? = some (.cells #[.slice (some ⟨xb, xo, none⟩) len cap, .slice (some ⟨bi, 0, none⟩) len len, .slice none 0 0, .slice (some ⟨bu, 0, none⟩) len len] 86) := (heap_alloc_old B _ (by omega)).trans IB.cm
          have hbuB : (B.alloc (.cells #[.int .i64 k] 3)).heap[bu]? = some (.cells vsB.toArray 45) := (heap_alloc_old B _ (by omega)).trans IB.cu
          have hh2B : (B.alloc (.cells #[.int .i64 k] 3)).heap[b5]? = some (.cells #[.int .i64 5, .int .i64 A, .int .i64 C] 42) := (heap_alloc_old B _ ltB).trans hhB
          have km2B : (B.alloc (.cells #[.int .i64 k] 3)).drew.cell? ⟨W.heap.size + 1 + 1, 3, none⟩ = some (.slice (some ⟨bu, 0, none⟩) len len) := by
            show (B.alloc (.cells #[.int .i64 k] 3)).cell? _ = _
            rw [cell_of_row _ _ 3 _ _ _ hm2B]; rfl
          have kf2B : (B.alloc (.cells #[.int .i64 k] 3)).drew.cell? ⟨b5, 2, none⟩ = some (.int .i64 C) := by
            show (B.alloc (.cells #[.int .i64 k] 3)).cell? _ = _
            rw [cell_of_row _ _ 2 _ _ _ hh2B]; rfl
          have ku2B : (B.alloc (.cells #[.int .i64 k] 3)).drew.cell? ⟨bu, C, none⟩ = some v2 := by
            show (B.alloc (.cells #[.int .i64 k] 3)).cell? _ = _
            rw [cell_of_row _ bu C _ _ _ hbuB]; simpa using hvB
          have hnbB : (B.alloc (.cells #[.int .i64 k] 3)).heap[B.heap.size]? = some (.cells #[.int .i64 k] 3) := heap_alloc_new B _
          have hHeld : B.drew.cell? ⟨W.heap.size + 1 + 1, 3, none⟩ = some (.slice (some ⟨bu, 0, none⟩) len len) ∧ B.drew.cell? ⟨b5, 2, none⟩ = some (.int .i64 C) ∧ B.drew.cell? ⟨bu, C, none⟩ = some v2 := ⟨kmB, kfB, kuB⟩
          refine wp_region_lastH (n := 18) (S := fun w' => w'.cell? ⟨W.heap.size + 1 + 1, 3, none⟩ = some (.slice (some ⟨bu, 0, none⟩) len len) ∧ w'.cell? ⟨b5, 2, none⟩ = some (.int .i64 C) ∧ w'.cell? ⟨bu, C, none⟩ = some v2) (by kernel_rfl) rfl rfl (by kernel_rfl) ?_
          change wpAnyH _ _ _ _ _ _ _ _ B.drew
          simp only [List.pop_toArray, List.dropLast]
          refine wpAnyH_take (i := 0) (v := .pointer (some ⟨W.heap.size + 1 + 1, 0, none⟩)) rfl (by kernel_rfl) (by kernel_rfl) (by kernel_rfl) (fun _ _ _ h => h) (Or.inl ⟨by rfl, by intro w hSw; (try dsimp only at hSw); go_simp⟩) hHeld ?_
          simp only [Act.put, List.setIfInBounds_toArray, List.set_cons_zero, List.set_cons_succ]
          refine wpAnyH_take (i := 1) (v := .pointer (some ⟨W.heap.size + 1 + 1, 0, none⟩)) rfl (by kernel_rfl) (by kernel_rfl) (by kernel_rfl) (fun _ _ _ h => h) (Or.inl ⟨by rfl, by intro w hSw; (try dsimp only at hSw); go_simp⟩) hHeld ?_
          simp only [Act.put, List.setIfInBounds_toArray, List.set_cons_zero, List.set_cons_succ]
          refine wpAnyH_take (i := 2) (v := .pointer (some ⟨W.heap.size + 1 + 1, 3, none⟩)) rfl (by kernel_rfl) (by kernel_rfl) (by kernel_rfl) (fun _ _ _ h => h) (Or.inl ⟨by rfl, by intro w hSw; (try dsimp only at hSw); go_simp⟩) hHeld ?_
          simp only [Act.put, List.setIfInBounds_toArray, List.set_cons_zero, List.set_cons_succ]
          refine wpAnyH_take (i := 3) (v := .slice (some ⟨bu, 0, none⟩) len len) rfl (by kernel_rfl) (by kernel_rfl) (by kernel_rfl) (fun _ _ _ h => h) (Or.inl ⟨by rfl, by intro w hSw; (try dsimp only at hSw); go_simp⟩) hHeld ?_
          simp only [Act.put, List.setIfInBounds_toArray, List.set_cons_zero, List.set_cons_succ]
          refine wpAnyH_take (i := 4) (v := .pointer (some ⟨b5, 2, none⟩)) rfl (by kernel_rfl) (by kernel_rfl) (by kernel_rfl) (fun _ _ _ h => h) (Or.inl ⟨by rfl, by intro w hSw; (try dsimp only at hSw); go_simp⟩) hHeld ?_
          simp only [Act.put, List.setIfInBounds_toArray, List.set_cons_zero, List.set_cons_succ]
          refine wpAnyH_take (i := 5) (v := .int .i64 C) rfl (by kernel_rfl) (by kernel_rfl) (by kernel_rfl) (fun _ _ _ h => h) (Or.inl ⟨by rfl, by intro w hSw; (try dsimp only at hSw); go_simp⟩) hHeld ?_
          simp only [Act.put, List.setIfInBounds_toArray, List.set_cons_zero, List.set_cons_succ]
          refine wpAnyH_take (i := 6) (v := .pointer (some ⟨W.heap.size + 1 + 1, 0, none⟩)) rfl (by kernel_rfl) (by kernel_rfl) (by kernel_rfl) (fun _ _ _ h => h) (Or.inl ⟨by rfl, by intro w hSw; (try dsimp only at hSw); go_simp⟩) hHeld ?_
          simp only [Act.put, List.setIfInBounds_toArray, List.set_cons_zero, List.set_cons_succ]
          refine wpAnyH_take (i := 7) (v := .pointer (some ⟨W.heap.size + 1 + 1, 0, none⟩)) rfl (by kernel_rfl) (by kernel_rfl) (by kernel_rfl) (fun _ _ _ h => h) (Or.inl ⟨by rfl, by intro w hSw; (try dsimp only at hSw); go_simp⟩) hHeld ?_
          simp only [Act.put, List.setIfInBounds_toArray, List.set_cons_zero, List.set_cons_succ]
          refine wpAnyH_take (i := 8) (v := .pointer (some ⟨W.heap.size + 1 + 1, 3, none⟩)) rfl (by kernel_rfl) (by kernel_rfl) (by kernel_rfl) (fun _ _ _ h => h) (Or.inl ⟨by rfl, by intro w hSw; (try dsimp only at hSw); go_simp⟩) hHeld ?_
          simp only [Act.put, List.setIfInBounds_toArray, List.set_cons_zero, List.set_cons_succ]
          refine wpAnyH_take (i := 9) (v := .slice (some ⟨bu, 0, none⟩) len len) rfl (by kernel_rfl) (by kernel_rfl) (by kernel_rfl) (fun _ _ _ h => h) (Or.inl ⟨by rfl, by intro w hSw; (try dsimp only at hSw); go_simp⟩) hHeld ?_
          simp only [Act.put, List.setIfInBounds_toArray, List.set_cons_zero, List.set_cons_succ]
          refine wpAnyH_take (i := 10) (v := .pointer (some ⟨b5, 2, none⟩)) rfl (by kernel_rfl) (by kernel_rfl) (by kernel_rfl) (fun _ _ _ h => h) (Or.inl ⟨by rfl, by intro w hSw; (try dsimp only at hSw); go_simp⟩) hHeld ?_
          simp only [Act.put, List.setIfInBounds_toArray, List.set_cons_zero, List.set_cons_succ]
          refine wpAnyH_take (i := 11) (v := .int .i64 C) rfl (by kernel_rfl) (by kernel_rfl) (by kernel_rfl) (fun _ _ _ h => h) (Or.inl ⟨by rfl, by intro w hSw; (try dsimp only at hSw); go_simp⟩) hHeld ?_
          simp only [Act.put, List.setIfInBounds_toArray, List.set_cons_zero, List.set_cons_succ]
          refine wpAnyH_take (i := 12) (v := .pointer (some ⟨bu, C, none⟩)) rfl (by kernel_rfl) (by kernel_rfl) (by kernel_rfl) (fun _ _ _ h => h) (Or.inl ⟨by rfl, by intro w hSw; (try dsimp only at hSw); go_simp⟩) hHeld ?_
          simp only [Act.put, List.setIfInBounds_toArray, List.set_cons_zero, List.set_cons_succ]
          refine wpAnyH_take (i := 13) (v := v2) rfl (by kernel_rfl) (by kernel_rfl) (by kernel_rfl) (fun _ _ _ h => h) (Or.inl ⟨by rfl, by intro w hSw; (try dsimp only at hSw); go_simp⟩) hHeld ?_
          simp only [Act.put, List.setIfInBounds_toArray, List.set_cons_zero, List.set_cons_succ]
          refine wpAnyH_take (i := 14) (v := .int .i64 k) rfl (by kernel_rfl) (by kernel_rfl) (by kernel_rfl) (fun _ _ _ h => h) (Or.inl ⟨by rfl, by intro w hSw; (try dsimp only at hSw); go_simp⟩) hHeld ?_
          simp only [Act.put, List.setIfInBounds_toArray, List.set_cons_zero, List.set_cons_succ]
          refine wpAnyH_ready (rs := [15]) (by kernel_rfl) (by simp) ?_
          refine AllReadyH.cons rfl (fun K hK => ?_) AllReadyH.nil
          go_simp
          refine hK.out _ _ ⟨km2B, kf2B, ku2B⟩ (fun hHeld => ?_)
          clear hK K
          refine wpAnyH_ready (rs := [16]) (by kernel_rfl) (by simp) ?_
          refine AllReadyH.cons rfl (fun K hK => ?_) AllReadyH.nil
          refine step_append_lies _ (by rfl) _ _ _ (by rfl) (W.heap.size + 3) 3 i0 _ 1 8 Try.underlying45 hi0 hz0 hz1 hz2 rfl (by omega) v2 rowB.length (rowB.map (Value.int .i64)) (by rfl) ((hoB.alloc _).drew)
                ⟨B.heap.size, 0, none⟩ 1 1 [.int .i64 k] (by rfl) (by rfl) (World.news_of_block (cs := #[.int .i64 k]) (t := 3) (fr := (0, 0)) hnbB) (by simp [Value.oneCell'])
                (by omega) (by unfold maxLen; omega) (by omega) (by simp; omega) (B.heap.size + 1) (by simp) ?_
          intro gB capB wqB hownB hgrowB hatB hltB
          have hb3B : wqB.heap[bu]? = some (.cells vsB.toArray 45) := (hgrowB.block bu (by simp; omega) (Ne.symm (fun e => n2B e))).trans hbuB
          have fzB : wqB.frozen? ⟨bu, C, none⟩ = false := frozen_of_row wqB bu C _ _ hb3B
          have czB : wqB.cell? ⟨bu, C, none⟩ = some v2 := by rw [cell_of_row wqB bu C _ _ _ hb3B]; simpa using hvB
          have h53B : wqB.heap[b5]? = some (.cells #[.int .i64 5, .int .i64 A, .int .i64 C] 42) := (hgrowB.block b5 (by simp; omega) (Ne.symm (fun e => n3B e))).trans hh2B
          have km3B : wqB.cell? ⟨W.heap.size + 1 + 1, 3, none⟩ = some (.slice (some ⟨bu, 0, none⟩) len len) := (hgrowB.cell_far _ (by simp; omega) (Ne.symm (fun e => n1B e))).trans km2B
          have kf3B : wqB.cell? ⟨b5, 2, none⟩ = some (.int .i64 C) := by rw [cell_of_row _ _ 2 _ _ _ h53B]; rfl
          refine hK.out _ _ ⟨km3B, kf3B, czB⟩ (fun hHeld => ?_)
          clear hK K
          simp only [Act.put, List.setIfInBounds_toArray, List.set_cons_zero, List.set_cons_succ]
          refine wpAnyH_take (i := 17) (v := .pointer (some ⟨bu, C, none⟩)) rfl (by kernel_rfl) (by kernel_rfl) (by kernel_rfl) (fun _ _ _ h => h) (Or.inl ⟨by rfl, by intro w hSw; (try dsimp only at hSw); go_simp⟩) hHeld ?_
          simp only [Act.put, List.setIfInBounds_toArray, List.set_cons_zero, List.set_cons_succ]
          refine wpAnyH_done (by kernel_rfl) ?_ _
          unfold LastQ
          go_simp
          have hat2B : v2.ownBlock = some gB ∨ B.heap.size ≤ gB := hatB.imp id (fun e => by omega)
          have hgB : B.grownBy wqB v2.ownBlock := (World.grownBy_alloc B (.cells #[.int .i64 k] 3) _).trans ⟨hgrowB.os, hgrowB.tape, hgrowB.output, hgrowB.size, hgrowB.block⟩
          have ID := IB.put hvB (k := k) (g := gB) (cap := capB) hgB (by rw [hrowB]; exact hownB) hat2B
          rw [hrowB] at ID
          have hhD : (wqB.setCell ⟨bu, C, none⟩ (.slice (some ⟨gB, 0, none⟩) (rowB.length + 1) capB)).heap[b5]? = some (.cells #[.int .i64 5, .int .i64 A, .int .i64 C] 42) := (heap_setCell_other wqB ⟨bu, C, none⟩ b5 _ (show b5 ≠ bu by omega)).trans h53B
          have ltD : b5 < (wqB.setCell ⟨bu, C, none⟩ (.slice (some ⟨gB, 0, none⟩) (rowB.length + 1) capB)).heap.size := (Array.getElem?_eq_some_iff.1 hhD).1
          obtain ⟨vsD, hvsD⟩ : ∃ x, x = vsB.set C (.slice (some ⟨gB, 0, none⟩) (rowB.length + 1) capB) := ⟨_, rfl⟩
          have nbD : ∀ (j : Nat) (v : Value), vsD[j]? = some v → v.ownBlock ≠ some b5 := by
            intro j u hu
            rw [hvsD, List.getElem?_set] at hu
            by_cases hj : C = j
            · rw [if_pos hj] at hu
              split at hu
              · cases hu
                intro e
                have e : gB = b5 := by simpa [Value.ownBlock] using e
                rcases hat2B with h | h
                · rw [e] at h; exact n3B h
                · omega
              · cases hu
            · rw [if_neg hj] at hu; exact nbB j u hu
          rw [← hvsD] at ID
          obtain ⟨D, hwD⟩ : ∃ x, x = wqB.setCell ⟨bu, C, none⟩ (.slice (some ⟨gB, 0, none⟩) (rowB.length + 1) capB) := ⟨_, rfl⟩
          rw [← hwD] at ID hhD ltD ⊢
          clear hwD hvsD hHeld kmB kfB kuB km2B kf2B ku2B hnbB hm2B hbuB hh2B hb3B fzB czB h53B km3B kf3B hownB hgrowB hatB hat2B hgB hltB hbdB hoB hhB nbB
          go_wp2
          refine ⟨⟨k + 1, bi, bu, vsD, by omega, by simp, ?_⟩, by simp only [iv]; omega⟩
          rw [useU, hT, stepU_five]
          exact ID
        · have h5b : (kd == 5) = false := by simpa using h5
          go_wp2
          refine ⟨⟨k + 1, bi, bu, vsB, by omega, by simp, ?_⟩, by simp only [iv]; omega⟩
          rw [useU, hT, stepU_else _ _ _ _ h1 h5]
          exact IB.up (by omega)
    · have hke : k = len := by omega
      subst hke
      go_wp2
      go_ret
      exact ⟨by simp, bi, bu, vs, I⟩
end Go.AM.Seat
