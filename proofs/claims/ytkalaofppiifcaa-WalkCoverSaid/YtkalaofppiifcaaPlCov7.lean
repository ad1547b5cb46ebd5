/- Plain: covers: what the code's cutter cuts; in order; by each scheme. -/
import Derived.Test.YtkalaofppiifcaaPlCov6
import Derived.Test.YtkalaofppiifcaaAmSortQ
import Derived.Test.YtkalaofppiifcaaSeCw1
set_option linter.unusedVariables false
set_option maxRecDepth 100000
namespace Go.AM.Seat
open Go Go.AM Go.Proofs

/-- The chain at a top. -/
def cutO (a : Int) (l : List Int) (top : Int) : List Subset.D := bif (downI a l top).1 != top then [(top, (downI a l top).1)] else []
/-- What is cut below the two children of a node. -/
def cutK (R : Int → List Subset.D → List Subset.D × Int) (a d : Int) (out : List Subset.D) : List Subset.D × Int :=
  bif (childI a d 0).2 == 4 then (out, 0) else bif (childI a d 0).2 != 0 then (out, (childI a d 0).2) else
  bif (R (childI a d 0).1 out).2 != 0 then R (childI a d 0).1 out else
  bif (childI a d 1).2 == 4 then ((R (childI a d 0).1 out).1, 0) else bif (childI a d 1).2 != 0 then ((R (childI a d 0).1 out).1, (childI a d 1).2) else R (childI a d 1).1 (R (childI a d 0).1 out).1
/-- What is cut below a top, behind what was. -/
def cutR (a : Int) (l : List Int) : Nat → Int → List Subset.D → List Subset.D × Int
  | 0, _, out => (out, 0)
  | f + 1, top, out => bif (downI a l top).2 != 0 then (out, (downI a l top).2) else cutK (cutR a l f) a (downI a l top).1 (out ++ cutO a l top)
def okC (ok : Int → Bool) (a d : Int) (j : Int) : Bool := bif (childI a d j).2 != 0 then true else ok (childI a d j).1
/-- It is no deeper than is told. -/
def cutOk (a : Int) (l : List Int) : Nat → Int → Bool
  | 0, _ => false
  | f + 1, top => bif (downI a l top).2 != 0 then true else okC (cutOk a l f) a (downI a l top).1 0 && okC (cutOk a l f) a (downI a l top).1 1
theorem cutR_len {a : Int} {l : List Int} : ∀ (f : Nat) (top : Int) (out : List Subset.D), (cutR a l f top out).1.length + 1 ≤ out.length + 2 ^ f := by
  intro f
  induction f with
  | zero => intro top out; rw [cutR]; simp
  | succ f ih =>
    intro top out
    have hp := Nat.two_pow_pos f
    have ho : (cutO a l top).length ≤ 1 := by unfold cutO; cases (downI a l top).1 != top <;> simp
    rw [cutR, Nat.pow_succ]
    cases (downI a l top).2 != 0 with
    | true => simp only [cond_true]; omega
    | false =>
      simp only [cond_false]
      have h0 := ih (childI a (downI a l top).1 0).1 (out ++ cutO a l top)
      have h1 := ih (childI a (downI a l top).1 1).1 (cutR a l f (childI a (downI a l top).1 0).1 (out ++ cutO a l top)).1
      rw [List.length_append] at h0
      have hl : (out ++ cutO a l top).length = out.length + (cutO a l top).length := List.length_append
      unfold cutK
      generalize cutR a l f (childI a (downI a l top).1 0).1 (out ++ cutO a l top) = r0 at *
      generalize cutR a l f (childI a (downI a l top).1 1).1 r0.1 = r1 at *
      generalize childI a (downI a l top).1 0 = c0
      generalize childI a (downI a l top).1 1 = c1
      cases c0.2 == 4 with
      | true => simp only [cond_true]; omega
      | false =>
        cases c0.2 != 0 with
        | true => simp only [cond_true, cond_false]; omega
        | false =>
          cases r0.2 != 0 with
          | true => simp only [cond_true, cond_false]; omega
          | false =>
            cases c1.2 == 4 with
            | true => simp only [cond_true, cond_false]; omega
            | false =>
              cases c1.2 != 0 with
              | true => simp only [cond_true, cond_false]; omega
              | false => simp only [cond_false]; omega
def castS (s : Nat × Nat) : Subset.D := ((s.1 : Int), (s.2 : Int))
theorem chainC_cast (n d : Nat) : (chainC n d).map castS = bif ((d : Int) != (n : Int)) then [((n : Int), (d : Int))] else [] := by
  unfold chainC
  by_cases h : d ≠ n
  · rw [if_pos h, show ((d : Int) != (n : Int)) = true by simp; omega]; rfl
  · rw [if_neg h, show ((d : Int) != (n : Int)) = false by simp; omega]; rfl
theorem cut_run {a : Int} {l : List Int} {H : Nat} {S : List Nat} (s : SetN a l H S) (h : lokB a l = true) : ∀ (f n : Nat), okN H n = true → H - n.log2 < f → (∃ i ∈ S, abv n (leafN H i) = true) →
    cutOk a l f (n : Int) = true ∧ ∃ c, CutN H S n c ∧ ∀ out, cutR a l f (n : Int) out = (out ++ c.map castS, 0) := by
  intro f
  induction f with
  | zero => intro n _ h; omega
  | succ f ih =>
    intro n hn hf hne
    obtain ⟨d, d1, d2, d3⟩ := down_law s h hn hne
    have hdl : n.log2 ≤ d.log2 := (abv_iff.1 d2.abv).1
    have hdH : d.log2 ≤ H := (okN_log (okN_ne d2.okd)).1 (okN_iff.1 d2.okd).2.2.2
    have k0 : childI a (d : Int) 0 = _ := child_nat s.ha d2.okd (sd := 0) (by omega)
    have k1 : childI a (d : Int) 1 = _ := child_nat s.ha d2.okd (sd := 1) (by omega)
    have eo : cutO a l (n : Int) = (chainC n d).map castS := by rw [chainC_cast]; unfold cutO; rw [d1]
    by_cases hlog : d.log2 = H
    · rw [if_pos hlog] at k0 k1
      refine ⟨?_, _, .leaf d2 hlog, fun out => ?_⟩
      · rw [cutOk, d1]
        unfold okC
        rw [k0, k1]; rfl
      · rw [cutR, d1, eo]
        unfold cutK
        rw [k0]; rfl
    · rw [if_neg hlog] at k0 k1
      obtain ⟨f1, f2⟩ := d3 (by omega)
      obtain ⟨l1, l2⟩ := log2_two (okN_ne d2.okd)
      obtain ⟨o0, c0, p1, p2⟩ := ih (2 * d) (okN_kid (sd := 0) d2.okd (by omega) (by omega)) (by rw [l1]; omega) f1
      obtain ⟨o1, c1, q1, q2⟩ := ih (2 * d + 1) (okN_kid (sd := 1) d2.okd (by omega) (by omega)) (by rw [l2]; omega) f2
      rw [Nat.add_zero] at k0
      refine ⟨?_, _, .fork d2 (by omega) p1 q1, fun out => ?_⟩
      · rw [cutOk, d1]
        unfold okC
        rw [k0, k1]
        simp only [bne_self_eq_false, cond_false]
        rw [o0, o1]; rfl
      · rw [cutR, d1, eo]
        unfold cutK
        rw [k0, k1]
        simp only [bne_self_eq_false, cond_false]
        rw [show ((0 : Int) == 4) = false from rfl, p2]
        simp only [bne_self_eq_false, cond_false]
        rw [q2]
        simp only [List.map_append, List.append_assoc]
/-- diff.Cover. -/
def diffI (a : Int) (l : List Int) : List Subset.D × Int :=
  bif (belowR a l 1).2 != 0 then ([], (belowR a l 1).2) else bif !decide (((belowR a l 1).1.length : Int) > 0) then ([(1, 0)], 0) else
  bif (cutR a l 40 1 []).2 != 0 then ([], (cutR a l 40 1 []).2) else (sortQ (cutR a l 40 1 []).1, 0)
/-- The parts of all. -/
def partsI (a : Int) : List Subset.D → List Subset.D → Option (List Subset.D)
  | [], out => some out
  | s :: r, out => bif (splitI a s).2 != 0 then none else partsI a r (out ++ (splitI a s).1)
def partsE (a : Int) : List Subset.D → Int
  | [] => 0
  | s :: r => bif (splitI a s).2 != 0 then (splitI a s).2 else partsE a r
/-- layer.Cover. -/
def coverI (a k : Int) (l : List Int) : List Subset.D × Int :=
  bif schE a k != 0 then ([], schE a k) else bif k == 1 then (wholeS (hangI a l).1, (hangI a l).2) else
  bif (bif (diffI a l).2 != 0 then true else k == 2) then diffI a l else
  match partsI a (diffI a l).1 [] with
  | none => ([], partsE a (diffI a l).1)
  | some out => (sortQ out, 0)
/-- THE COVER: subsets that may be; each leaf out of the set is in just one, one of it in none. -/
structure CovOk (a k : Int) (l : List Int) (c : List Subset.D) : Prop where
  ok : ∀ s ∈ c, ∃ i j : Nat, s = ((i : Int), (j : Int)) ∧ okS a.toNat i j = true ∧ mayI a k s = (true, 0)
  cnt : ∀ i : Nat, i < 2 ^ a.toNat → c.countP (fun s => hasN a.toNat s.1.toNat s.2.toNat i) = if (i : Int) ∈ l then 0 else 1
  len : c.length ≤ 4 * 33 * 1024
theorem okS_may {a k : Int} {H i j : Nat} (ha : a = (H : Int)) (hk : schE a k = 0) (hs : okS H i j = true) : mayI a k ((i : Int), (j : Int)) = bif k == 1 then ((j : Int) == 0, 0) else bif k == 2 then (bif (j : Int) != 0 then true else (i : Int) == 1, 0) else useI a ((i : Int), (j : Int)) := by
  obtain ⟨k1, k2⟩ := okS_iff.1 hs
  obtain ⟨h1, h2, h3, h4⟩ := okN_iff.1 k1
  have hp := pow32 h2
  have hp1 : 2 ^ (H + 1) = 2 * 2 ^ H := by rw [Nat.pow_succ]; omega
  have u : ∀ {n : Nat}, n < 2 ^ 64 → IntKind.u64.has (n : Int) := fun {n} hn => ⟨by show (0 : Int) ≤ n; omega, by show (n : Int) ≤ 18446744073709551615; omega⟩
  have hj : j < 2 ^ (H + 1) := by
    rcases k2 with rfl | ⟨h, _⟩
    · exact Nat.two_pow_pos _
    · exact (okN_iff.1 h).2.2.2
  have hsub : subE a ((i : Int), (j : Int)) = 0 := by
    rw [subE_nat (u (by omega)) (u (by omega)), ha]
    simp only [Int.toNat_natCast]
    rw [hs]; rfl
  unfold mayI mayB3
  rw [hk, hsub]; rfl
/-! ### the laws -/
theorem cast_cnt {a : Int} {H : Nat} (ha : a.toNat = H) (c : List (Nat × Nat)) (i : Nat) : (c.map castS).countP (fun s => hasN a.toNat s.1.toNat s.2.toNat i) = cntN H c i := by
  unfold cntN
  rw [List.countP_map, ha]; rfl
/-- Chains, or all. -/
structure DifN (H : Nat) (S : List Nat) (c : List (Nat × Nat)) : Prop where
  ok : ∀ s ∈ c, okS H s.1 s.2 = true ∧ (s.2 ≠ 0 ∨ s = (1, 0))
  cnt : ∀ i, i < 2 ^ H → cntN H c i = if i ∈ S then 0 else 1
  len : c.length ≤ 2048
theorem DifN.perm {H : Nat} {S : List Nat} {c d : List (Nat × Nat)} (h : DifN H S c) (hp : d.Perm c) : DifN H S d :=
  ⟨fun s hs => h.ok s (hp.mem_iff.1 hs), fun i hi => by rw [← h.cnt i hi]; unfold cntN; exact hp.countP_eq _, by rw [hp.length_eq]; exact h.len⟩
theorem sort_cast (c : List (Nat × Nat)) : ∃ d : List (Nat × Nat), sortQ (c.map castS) = d.map castS ∧ d.Perm c := by
  refine ⟨(sortQ (c.map castS)).map fun s => (s.1.toNat, s.2.toNat), ?_, ?_⟩
  · rw [List.map_map]
    conv => lhs; rw [← List.map_id (sortQ (c.map castS))]
    refine List.map_congr_left fun x hx => ?_
    obtain ⟨y, _, rfl⟩ := List.mem_map.1 (sortQ_mem.1 hx)
    rfl
  · have := (sortQ_perm (c.map castS)).map fun s : Subset.D => (s.1.toNat, s.2.toNat)
    rw [List.map_map] at this
    have e : c.map ((fun s : Subset.D => (s.1.toNat, s.2.toNat)) ∘ castS) = c := by
      conv => rhs; rw [← List.map_id c]
      exact List.map_congr_left fun x _ => rfl
    rw [e] at this
    exact this
theorem sort_two (c : List (Nat × Nat)) : ∃ d : List (Nat × Nat), sortQ (c.map castS) = d.map castS ∧ d.Perm c := sort_cast c
theorem SetN.below1 {a : Int} {l : List Int} {H : Nat} {S : List Nat} (s : SetN a l H S) (h : lokB a l = true) : belowR a l 1 = (l, 0) := by
  have ho : okN H 1 = true := by rw [okN_one, decide_eq_true s.h1, decide_eq_true s.h2]; rfl
  have hle : (leavesI a 1).2 = 0 := by
    have := (within_nat (h := a) (n := 1) (i := 0) (by decide) (by decide) (by rw [s.ha, Int.toNat_natCast]; exact ho) (by exact Nat.two_pow_pos _)).1
    exact this
  have hb : belowB a l 1 = false := by
    unfold belowB lchkI
    rw [hle, h]; rfl
  have hbl : belowL a l 1 = l := by
    have := s.below ho
    rw [show ((1 : Nat) : Int) = 1 from rfl] at this
    rw [this, List.filter_eq_self.2 fun i _ => abv_one leafN_ne, ← s.map]
  unfold belowR
  rw [hb, hbl]; rfl
theorem diff_law {a : Int} {l : List Int} {H : Nat} {S : List Nat} (s : SetN a l H S) (h : lokB a l = true) : ∃ c, diffI a l = (c.map castS, 0) ∧ DifN H S c := by
  have ho : okN H 1 = true := by rw [okN_one, decide_eq_true s.h1, decide_eq_true s.h2]; rfl
  unfold diffI
  rw [s.below1 h]
  simp only [bne_self_eq_false, cond_false]
  cases hS : S with
  | nil =>
    have hl : l = [] := by rw [s.map, hS]; rfl
    rw [hl]
    refine ⟨[(1, 0)], rfl, fun x hx => ?_, fun i hi => ?_, by simp⟩
    · rw [List.mem_singleton.1 hx]
      exact ⟨okS_iff.2 ⟨ho, .inl rfl⟩, .inr rfl⟩
    · unfold cntN
      rw [List.countP_cons_of_pos (by rw [has_whole]; exact abv_one leafN_ne)]; rfl
  | cons x r =>
    have hlen : 0 < l.length := by rw [s.map, hS]; simp
    rw [decide_eq_true (show (l.length : Int) > 0 by omega)]
    simp only [Bool.not_true, cond_false]
    obtain ⟨_, c, c1, c2⟩ := cut_run s h 40 1 ho (by have := s.h2; omega) ⟨x, by rw [hS]; simp, abv_one leafN_ne⟩
    have c2 : cutR a l 40 1 [] = _ := c2 []
    rw [c2, List.nil_append]
    simp only [bne_self_eq_false, cond_false]
    obtain ⟨d, d1, d2⟩ := sort_cast c
    rw [← hS]
    have hc : DifN H S c := by
      refine ⟨fun x hx => ⟨(cut_ok c1 x hx).1, .inl (cut_ok c1 x hx).2⟩, fun i hi => ?_, ?_⟩
      · rw [cut_cnt s.lt c1 hi, abv_one leafN_ne, Bool.true_and]
        by_cases hin : i ∈ S
        · rw [if_pos hin, List.contains_iff_mem.2 hin]; rfl
        · rw [if_neg hin]
          cases hc : S.contains i with
          | false => rfl
          | true => exact absurd (List.contains_iff_mem.1 hc) hin
      · have h1 := cut_len s.lt c1
        have h2 : S.countP (fun i => abv 1 (leafN H i)) ≤ S.length := List.countP_le_length
        have := s.len
        omega
    exact ⟨d, by rw [d1], hc.perm d2⟩
theorem parts_law {a : Int} {H : Nat} (ha : a = (H : Int)) : ∀ (c : List (Nat × Nat)), (∀ s ∈ c, okS H s.1 s.2 = true ∧ (s.2 ≠ 0 ∨ s = (1, 0))) → ∃ d : List (Nat × Nat), (∀ out, partsI a (c.map castS) out = some (out ++ d.map castS)) ∧ d.length ≤ 2 * c.length ∧
    (∀ s ∈ d, okS H s.1 s.2 = true ∧ useI a (castS s) = (true, 0)) ∧ ∀ i, cntN H d i = cntN H c i := by
  intro c
  induction c with
  | nil => intro _; exact ⟨[], fun out => by rw [List.map_nil, partsI, List.append_nil], by simp, (fun s hs => nomatch hs), fun i => rfl⟩
  | cons x c ih =>
    intro hc
    obtain ⟨d, d1, d2, d3, d4⟩ := ih fun s hs => hc s (by simp [hs])
    obtain ⟨h1, h2⟩ := hc x (by simp)
    have hx : ∃ e : List (Nat × Nat), splitI a (castS x) = (e.map castS, 0) ∧ e.length ≤ 2 ∧ (∀ s ∈ e, okS H s.1 s.2 = true ∧ useI a (castS s) = (true, 0)) ∧ ∀ i, cntN H e i = (hasN H x.1 x.2 i).toNat := by
      rcases h2 with h2 | rfl
      · obtain ⟨e, e1, e2, e3, e4⟩ := split_law ha h1 h2
        exact ⟨e, e1, e2, fun s hs => ⟨(e3 s hs).1, (e3 s hs).2.2⟩, e4⟩
      · have hu : useI a (castS (1, 0)) = (true, 0) := by
          have hsub : subE a ((1 : Int), (0 : Int)) = 0 := by
            rw [subE_nat (s := ((1 : Int), (0 : Int))) ⟨by decide, by decide⟩ ⟨by decide, by decide⟩, ha]
            have h1 : okS H 1 0 = true := h1
            simp only [Int.toNat_natCast]
            show (bif okS H 1 0 then (0 : Int) else 1) = 0
            rw [h1]; rfl
          unfold useI
          show (bif subE a ((1 : Int), (0 : Int)) != 0 then _ else _) = _
          rw [hsub]; rfl
        refine ⟨[(1, 0)], ?_, by simp, fun s hs => ?_, fun i => ?_⟩
        · unfold splitI; rw [hu]; rfl
        · rw [List.mem_singleton.1 hs]; exact ⟨h1, hu⟩
        · unfold cntN
          rw [List.countP_cons, List.countP_nil]
          cases hasN H 1 0 i <;> rfl
    obtain ⟨e, e1, e2, e3, e4⟩ := hx
    refine ⟨e ++ d, fun out => ?_, by rw [List.length_append, List.length_cons]; omega, fun s hs => ?_, fun i => ?_⟩
    · rw [List.map_cons, partsI, e1]
      simp only [bne_self_eq_false, cond_false]
      rw [d1, List.map_append, List.append_assoc]
    · rcases List.mem_append.1 hs with hs | hs
      · exact e3 s hs
      · exact d3 s hs
    · rw [cnt_app, e4, d4]
      unfold cntN
      rw [List.countP_cons]
      cases hasN H x.1 x.2 i <;> simp <;> omega
theorem hang_len (a : Int) (l : List Int) : (hangI a l).1.length ≤ 2 * 33 * 1024 + 1 := by
  unfold hangI
  cases (bif lchkI a l == 0 then (l.length : Int) == 0 else false) with
  | true => simp
  | false =>
    simp only [cond_false]
    unfold hangT
    cases hc : (treeI a l).2 != 0 with
    | true => simp
    | false =>
      simp only [cond_false]
      have h : ∀ (t t2 hs : List Int), (hangG a t t2 hs).length ≤ hs.length + 2 * t2.length := by
        intro t t2
        induction t2 with
        | nil => intro hs; rw [hangG]; omega
        | cons x r ih =>
          intro hs
          have := ih (hs ++ kidsL a t x)
          have := kidsL_len a t x
          rw [List.length_append] at *
          rw [hangG, List.length_cons]
          omega
      have h1 := h (treeI a l).1 (treeI a l).1 []
      have h2 : (treeI a l).1.length ≤ 33 * 1024 := by
        unfold treeI
        cases hc : lchkI a l != 0 with
        | true => exact Nat.zero_le _
        | false =>
          obtain ⟨hl, h3, _⟩ := lok_len (lchk_ok hc)
          have h4 := highB_iff.1 (chk_zero h3).1
          have h := treeG_len (a + 1).toNat (l.map fun x => (leafI a x).1) []
          rw [List.length_map] at h
          have h5 := Nat.mul_le_mul (show (a + 1).toNat ≤ 33 by omega) hl
          show (treeG (a + 1).toNat (l.map fun x => (leafI a x).1) []).length ≤ _
          simp only [List.length_nil] at h
          omega
      simp only [List.length_nil] at h1
      omega
/-- THE COVER of a set that may be. -/
theorem cover_law {a k : Int} {l : List Int} (hk : schE a k = 0) (h : lokB a l = true) (hu : ∀ x ∈ l, IntKind.u64.has x) : (coverI a k l).2 = 0 ∧ CovOk a k l (coverI a k l).1 := by
  have s := setN_of h hu
  have hmem : ∀ i : Nat, i ∈ l.map Int.toNat ↔ (i : Int) ∈ l := fun i => by
    rw [List.mem_map]
    constructor
    · rintro ⟨x, hx, e⟩
      have : 0 ≤ x := (hu x hx).1
      rwa [show (i : Int) = x by omega]
    · intro h; exact ⟨_, h, Int.toNat_natCast i⟩
  have hmi : ∀ i : Nat, (if i ∈ l.map Int.toNat then 0 else 1 : Nat) = if (i : Int) ∈ l then 0 else 1 := fun i => by
    by_cases hin : i ∈ l.map Int.toNat
    · rw [if_pos hin, if_pos ((hmem i).1 hin)]
    · rw [if_neg hin, if_neg fun h => hin ((hmem i).2 h)]
  have hkr : 1 ≤ k ∧ k ≤ 3 := by
    unfold schE at hk
    cases h1 : decide (k < 1) with
    | true => rw [h1] at hk; cases hk
    | false =>
      rw [h1] at hk
      cases h2 : decide (k > 3) with
      | true => rw [h2] at hk; cases hk
      | false => have := of_decide_eq_false h1; have := of_decide_eq_false h2; omega
  have ecast : ∀ s : Nat × Nat, castS s = ((s.1 : Int), (s.2 : Int)) := fun s => rfl
  unfold coverI
  rw [hk]
  simp only [bne_self_eq_false, cond_false]
  cases hk1 : k == 1 with
  | true =>
    have hk1 : k = 1 := eq_of_beq hk1
    simp only [cond_true]
    obtain ⟨g1, g, g2, g3, g4⟩ := hang_law h hu
    have ew : wholeS (hangI a l).1 = (g.map fun n => (n, 0)).map castS := by
      rw [g2]; unfold wholeS; rw [List.map_map, List.map_map]; rfl
    refine ⟨g1, fun x hx => ?_, fun i hi => ?_, ?_⟩
    · rw [ew] at hx
      obtain ⟨p, hp, rfl⟩ := List.mem_map.1 hx
      obtain ⟨n, hn, rfl⟩ := List.mem_map.1 hp
      have ho : okS a.toNat n 0 = true := okS_iff.2 ⟨g3 n hn, .inl rfl⟩
      refine ⟨n, 0, rfl, ho, ?_⟩
      show mayI a k ((n : Int), ((0 : Nat) : Int)) = _
      rw [okS_may s.ha hk ho, hk1]; rfl
    · rw [ew, cast_cnt rfl]
      unfold cntN
      rw [List.countP_map, ← g4 i hi]
      refine List.countP_congr fun n hn => ?_
      show hasN _ n 0 i = true ↔ _
      rw [has_whole]
    · have := hang_len a l
      unfold wholeS
      rw [List.length_map]; omega
  | false =>
    simp only [cond_false]
    obtain ⟨c, c1, c2⟩ := diff_law s h
    rw [c1]
    simp only [bne_self_eq_false, cond_false]
    cases hk2 : k == 2 with
    | true =>
      have hk2 : k = 2 := eq_of_beq hk2
      refine ⟨rfl, fun x hx => ?_, fun i hi => ?_, ?_⟩
      · obtain ⟨p, hp, rfl⟩ := List.mem_map.1 hx
        obtain ⟨o1, o2⟩ := c2.ok p hp
        refine ⟨p.1, p.2, rfl, o1, ?_⟩
        rw [ecast, okS_may s.ha hk o1, hk2]
        rcases o2 with o2 | rfl
        · show (bif ((p.2 : Int) != 0) then true else (p.1 : Int) == 1, (0 : Int)) = _
          rw [show ((p.2 : Int) != 0) = true by simp; omega]; rfl
        · rfl
      · show (c.map castS).countP _ = _
        rw [cast_cnt rfl, c2.cnt i hi, hmi]
      · show (c.map castS).length ≤ _
        rw [List.length_map]; have := c2.len; omega
    | false =>
      obtain ⟨d, d1, d2, d3, d4⟩ := parts_law s.ha c c2.ok
      simp only [cond_false]
      rw [d1, List.nil_append]
      obtain ⟨e, e1, e2⟩ := sort_cast d
      simp only [e1]
      refine ⟨trivial, fun x hx => ?_, fun i hi => ?_, ?_⟩
      · obtain ⟨p, hp, rfl⟩ := List.mem_map.1 hx
        obtain ⟨o1, o2⟩ := d3 p (e2.mem_iff.1 hp)
        refine ⟨p.1, p.2, rfl, o1, ?_⟩
        rw [ecast, okS_may s.ha hk o1, hk1, hk2]
        exact o2
      · rw [cast_cnt rfl]
        have : cntN a.toNat e i = cntN a.toNat d i := by unfold cntN; exact e2.countP_eq _
        rw [this, d4, c2.cnt i hi, hmi]
      · rw [List.length_map, e2.length_eq]; have := c2.len; omega
/-- Of a set that may not be there is none. -/
theorem cover_err {a k : Int} {l : List Int} (hk : schE a k = 0) (h : lokB a l = false) : (coverI a k l).2 ≠ 0 := by
  have hc : lchkI a l = 1 := by unfold lchkI; rw [h]; rfl
  have hd : (diffI a l).2 = 1 := by
    have hb : belowB a l 1 = true := by
      unfold belowB
      rw [hc]
      cases (leavesI a 1).2 != 0 <;> rfl
    unfold diffI belowR
    rw [hb]; rfl
  have hh : (hangI a l).2 = 1 := by
    unfold hangI treeI
    rw [hc]; rfl
  unfold coverI
  rw [hk]
  simp only [bne_self_eq_false, cond_false]
  cases k == 1 with
  | true => show (hangI a l).2 ≠ 0; rw [hh]; decide
  | false =>
    rw [hd]
    show (diffI a l).2 ≠ 0
    rw [hd]; decide
end Go.AM.Seat
