/- Plain: what the code's children, hanging nodes and meeting nodes are. -/
import Derived.Test.YtkalaofppiifcaaPlCov3
set_option linter.unusedVariables false
set_option maxRecDepth 100000
namespace Go.AM.Seat
open Go Go.AM Go.Proofs

theorem odd0 : oddB 0 = false := by decide
theorem odd1 : oddB 1 = false := by decide
theorem or_one (n : Nat) : 2 * n ||| 1 = 2 * n + 1 := by
  have := Nat.two_pow_add_eq_or_of_lt (i := 1) (b := 1) (by decide) n
  rw [Nat.pow_one] at this
  exact this.symm
theorem child_nat {a : Int} {H n : Nat} (ha : a = (H : Int)) (hn : okN H n = true) {sd : Nat} (hs : sd ≤ 1) :
    childI a (n : Int) (sd : Int) = if n.log2 = H then (0, 4) else (((2 * n + sd : Nat) : Int), 0) := by
  obtain ⟨h1, h2, h3, h4⟩ := okN_iff.1 hn
  have hp := pow32 h2
  have hp1 : 2 ^ (H + 1) = 2 * 2 ^ H := by rw [Nat.pow_succ]; omega
  have hc : (chkI a (n : Int) != 0) = false := by rw [chk_ne (by omega), ha, Int.toNat_natCast, Int.toNat_natCast, hn]; rfl
  have ho : oddB (sd : Int) = false := by
    rcases Nat.eq_zero_or_pos sd with rfl | h
    · exact odd0
    · obtain rfl : sd = 1 := by omega
      exact odd1
  unfold childI
  rw [hc, ho, dep_nat (by omega), Int.toNat_natCast, ha]
  simp only [cond_false]
  by_cases h : n.log2 = H
  · rw [if_pos h, h, show ((H : Int) == (H : Int)) = true from beq_self_eq_true _]; rfl
  · rw [if_neg h, show ((n.log2 : Int) == (H : Int)) = false by simp; omega]
    have e1 : shlI (n : Int) 1 = ((n * 2 ^ 1 : Nat) : Int) := shl_nat (k := 1) (by omega) (by omega)
    rw [e1, wrapU (by omega) (by omega), or_nat (by omega) (by omega)]
    rcases Nat.eq_zero_or_pos sd with rfl | h9
    · simp only [cond_false, Nat.or_zero]
      congr 2; omega
    · obtain rfl : sd = 1 := by omega
      have : n * 2 ^ 1 = 2 * n := by omega
      rw [this, or_one]; rfl
theorem okN_kid {H n sd : Nat} (hn : okN H n = true) (h : n.log2 < H) (hs : sd ≤ 1) : okN H (2 * n + sd) = true := by
  obtain ⟨h1, h2, h3, h4⟩ := okN_iff.1 hn
  obtain ⟨l1, l2⟩ := log2_two (d := n) (by omega)
  have : (2 * n + sd).log2 = n.log2 + 1 := by
    rcases Nat.eq_zero_or_pos sd with rfl | h9
    · exact l1
    · obtain rfl : sd = 1 := by omega
      exact l2
  exact okN_iff.2 ⟨h1, h2, by omega, (okN_log (by omega)).2 (by omega)⟩
/-! ### the nodes that hang -/
theorem kids_nat {a : Int} {H : Nat} {t : List Nat} (ha : a = (H : Int)) (ht : (t.map fun n : Nat => (n : Int)).Pairwise (· < ·)) {x : Nat} (hx : okN H x = true) :
    kidsL a (t.map fun n : Nat => (n : Int)) (x : Int) = (kidsN H t x).map fun n : Nat => (n : Int) := by
  have hf : ∀ c : Nat, foundBu (t.map fun n : Nat => (n : Int)) (c : Int) = t.contains c := fun c => by
    apply Bool.eq_iff_iff.2
    rw [found_iffu ht, List.contains_iff_mem, List.mem_map]
    constructor
    · rintro ⟨y, hy, e⟩
      obtain rfl : y = c := by omega
      exact hy
    · intro h; exact ⟨c, h, rfl⟩
  have e0 := child_nat ha hx (sd := 0) (by omega)
  have e1 := child_nat ha hx (sd := 1) (by omega)
  have e0 : childI a (x : Int) 0 = _ := e0
  have e1 : childI a (x : Int) 1 = _ := e1
  unfold kidsL kidsN
  rw [e0, e1]
  by_cases h : x.log2 = H
  · rw [if_pos h, if_pos h, if_neg (show ¬ x.log2 < H by omega)]; rfl
  · have hlt : x.log2 < H := by
      have := (okN_log (h := H) (n := x) (okN_ne hx)).1 (okN_iff.1 hx).2.2.2
      omega
    rw [if_neg h, if_neg h, if_pos hlt]
    simp only [bne_self_eq_false, cond_false, Nat.add_zero]
    unfold add1
    rw [hf, hf]
    simp only [List.filter_cons, List.filter_nil, List.nil_append]
    cases t.contains (2 * x) <;> cases t.contains (2 * x + 1) <;> simp
theorem hangG_flat (a : Int) (t : List Int) : ∀ (t2 hs : List Int), hangG a t t2 hs = hs ++ t2.flatMap (kidsL a t) := by
  intro t2
  induction t2 with
  | nil => intro hs; rw [hangG, List.flatMap_nil, List.append_nil]
  | cons x r ih => intro hs; rw [hangG, ih, List.flatMap_cons, List.append_assoc]
theorem SetN.treeOk {a : Int} {l : List Int} {H : Nat} {S : List Nat} (s : SetN a l H S) {t : List Nat} (ht : TreeN H S t) {x : Nat} (hx : x ∈ t) : okN H x = true := by
  obtain ⟨i, hi, hb⟩ := (ht.mem x).1 hx
  obtain ⟨p1, p2⟩ := abv_iff.1 hb
  have hx0 : x ≠ 0 := by
    intro e
    have := abv_upN hb
    exact upN_ne (leafN_ne (h := H) (i := i)) (this.symm.trans e)
  rw [leafN_log2 (s.lt i hi)] at p1
  exact okN_iff.2 ⟨s.h1, s.h2, Nat.pos_of_ne_zero hx0, (okN_log hx0).2 p1⟩
/-- WHAT HANGS: nodes; each leaf out of the set is below just one, one of it below none. -/
theorem hang_law {a : Int} {l : List Int} (h : lokB a l = true) (hu : ∀ x ∈ l, IntKind.u64.has x) : (hangI a l).2 = 0 ∧ ∃ g : List Nat, (hangI a l).1 = g.map (fun n : Nat => (n : Int)) ∧ (∀ n ∈ g, okN a.toNat n = true) ∧
    ∀ i, i < 2 ^ a.toNat → g.countP (fun n => abv n (leafN a.toNat i)) = if (i : Int) ∈ l then 0 else 1 := by
  have s := setN_of h hu
  have hck : lchkI a l = 0 := by unfold lchkI; rw [h]; rfl
  have hmem : ∀ i : Nat, i ∈ l.map Int.toNat ↔ (i : Int) ∈ l := fun i => by
    rw [List.mem_map]
    constructor
    · rintro ⟨x, hx, e⟩
      have : 0 ≤ x := (hu x hx).1
      rwa [show (i : Int) = x by omega]
    · intro h; exact ⟨_, h, Int.toNat_natCast i⟩
  unfold hangI
  rw [hck]
  cases hl : l with
  | nil =>
    refine ⟨rfl, [1], rfl, fun n hn => ?_, fun i hi => ?_⟩
    · rw [List.mem_singleton.1 hn, okN_one, decide_eq_true s.h1, decide_eq_true s.h2]; rfl
    · rw [if_neg (by simp), List.countP_cons_of_pos (p := fun n => abv n (leafN a.toNat i)) (abv_one leafN_ne)]; rfl
  | cons y r =>
    rw [← hl]
    have hlen : ((l.length : Int) == 0) = false := by rw [hl]; simp; omega
    rw [hlen]
    have hti : treeI a l = (treeL a l, 0) := by unfold treeI; rw [hck]; rfl
    obtain ⟨t1, t, t2, t3⟩ := s.tree
    refine ⟨?_, t.flatMap (kidsN a.toNat t), ?_, fun n hn => ?_, fun i hi => ?_⟩
    · simp only [beq_self_eq_true, cond_true, cond_false]
      rw [hti]
    · simp only [beq_self_eq_true, cond_true, cond_false]
      unfold hangT
      rw [hti]
      simp only [bne_self_eq_false, cond_false]
      rw [hangG_flat, List.nil_append, t2, List.map_flatMap, List.flatMap_map]
      rw [t2] at t1
      have : ∀ (r : List Nat), (∀ x ∈ r, x ∈ t) → r.flatMap (fun x : Nat => kidsL a (t.map fun n : Nat => (n : Int)) (x : Int)) = r.flatMap fun x => (kidsN a.toNat t x).map fun n : Nat => (n : Int) := by
        intro r
        induction r with
        | nil => intro _; rfl
        | cons x r ih => intro hr; rw [List.flatMap_cons, List.flatMap_cons, ih fun z hz => hr z (by simp [hz]), kids_nat s.ha t1 (s.treeOk t3 (hr x (by simp)))]
      exact this t fun _ h => h
    · obtain ⟨x, hx, hn⟩ := List.mem_flatMap.1 hn
      have hox := s.treeOk t3 hx
      unfold kidsN at hn
      by_cases h9 : x.log2 < a.toNat
      · rw [if_pos h9] at hn
        have hn := (List.mem_filter.1 hn).1
        rcases List.mem_cons.1 hn with rfl | hn
        · exact okN_kid (sd := 0) hox h9 (by omega)
        · rw [List.mem_singleton.1 hn]; exact okN_kid (sd := 1) hox h9 (by omega)
      · rw [if_neg h9] at hn; cases hn
    · rw [hang_cnt s.lt (by rw [hl]; simp) t3 hi]
      by_cases hin : i ∈ l.map Int.toNat
      · rw [if_pos hin, if_pos ((hmem i).1 hin)]
      · rw [if_neg hin, if_neg fun h => hin ((hmem i).2 h)]
end Go.AM.Seat
