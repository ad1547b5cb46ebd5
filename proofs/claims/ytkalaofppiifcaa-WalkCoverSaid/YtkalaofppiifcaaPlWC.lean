/- The law WalkCover. -/
import Derived.Test.YtkalaofppiifcaaSeWC
set_option linter.unusedVariables false
set_option linter.unusedSimpArgs false
namespace Go.AM.Seat
open Go Go.AM Go.Proofs
theorem idxP_no {p : Int × Int → Bool} {l : List (Int × Int)} (h : ∀ x ∈ l, p x = false) : idxP p l 0 < 0 := by
  by_cases h1 : idxP p l 0 < 0
  · exact h1
  · have h1 : idxP p l 0 ≥ 0 := by omega
    obtain ⟨a, b, c, _⟩ := idxP_spec p l 0 (Int.le_refl 0) h1
    rw [Int.sub_zero] at c
    have hlt : (idxP p l 0).toNat < l.length := by omega
    rw [List.getD_eq_getElem?_getD, List.getElem?_eq_getElem hlt, Option.getD_some] at c
    rw [h _ (List.getElem_mem hlt)] at c; cases c
theorem idxP_yes {p : Int × Int → Bool} {l : List (Int × Int)} {x : Int × Int} (hx : x ∈ l) (hp : p x = true) : 0 ≤ idxP p l 0 := by
  by_cases h1 : idxP p l 0 < 0
  · have := idxP_none p l 0 (Int.le_refl 0) (by omega) x hx
    rw [this] at hp; cases hp
  · omega
/-- Subsets that may be, and what of them has a leaf. -/
theorem sub_zero {a : Int} {H i j : Nat} (ha : a = (H : Int)) (hs : okS H i j = true) : subE a ((i : Int), (j : Int)) = 0 ∧ IntKind.u64.has (i : Int) ∧ IntKind.u64.has (j : Int) := by
  obtain ⟨k1, k2⟩ := okS_iff.1 hs
  obtain ⟨h1, h2, h3, h4⟩ := okN_iff.1 k1
  have hp := pow32 h2
  have hp1 : 2 ^ (H + 1) = 2 * 2 ^ H := by rw [Nat.pow_succ]; omega
  have u : ∀ {n : Nat}, n < 2 ^ 64 → IntKind.u64.has (n : Int) := fun {n} hn => ⟨by show (0 : Int) ≤ n; omega, by show (n : Int) ≤ 18446744073709551615; omega⟩
  have hj : j < 2 ^ (H + 1) := by
    rcases k2 with rfl | ⟨h, _⟩
    · exact Nat.two_pow_pos _
    · exact (okN_iff.1 h).2.2.2
  refine ⟨?_, u (by omega), u (by omega)⟩
  rw [subE_nat (u (by omega)) (u (by omega)), ha]
  simp only [Int.toNat_natCast]
  rw [hs]; rfl
theorem CovOk.bad {a k : Int} {l : List Int} {c : List Subset.D} (h : CovOk a k l c) (h0 : 0 ≤ a) : ∀ s ∈ c, badS a s = false := fun s hs => by
  obtain ⟨i, j, rfl, o, _⟩ := h.ok s hs
  unfold badS
  rw [(sub_zero (a := a) (H := a.toNat) (by omega) o).1]; rfl
theorem CovOk.has {a k x : Int} {l : List Int} {c : List Subset.D} (h : CovOk a k l c) (h0 : 0 ≤ a) (hx : IntKind.u64.has x) (hl : leafOk a.toNat x.toNat = true) : ∀ s ∈ c, hasS a x s = hasN a.toNat s.1.toNat s.2.toNat x.toNat := fun s hs => by
  obtain ⟨i, j, rfl, o, _⟩ := h.ok s hs
  obtain ⟨_, u1, u2⟩ := sub_zero (a := a) (H := a.toNat) (by omega) o
  unfold hasS
  rw [has_nat (s := ((i : Int), (j : Int))) u1 u2 hx]
  simp only [Int.toNat_natCast]
  rw [o, hl]; rfl
theorem CovOk.one {a k x : Int} {l : List Int} {c : List Subset.D} (h : CovOk a k l c) (h0 : 0 ≤ a) (hx : IntKind.u64.has x) (hl : leafOk a.toNat x.toNat = true) : c.countP (hasS a x) = if x ∈ l then 0 else 1 := by
  have h1 := h.cnt x.toNat (leafOk_iff.1 hl).2.2
  have e : ((x.toNat : Nat) : Int) = x := (hasU hx).2.2.symm
  rw [e] at h1
  rw [← h1]
  exact List.countP_congr fun s hs => by rw [h.has h0 hx hl s hs]
theorem first_none {a x : Int} {c : List Subset.D} (hl : (leafI a x).2 = 0) (hb : ∀ s ∈ c, badS a s = false) (hh : ∀ s ∈ c, hasS a x s = false) : firstI a x c = (0, 4) := by
  unfold firstI
  rw [hl, decide_eq_false (show ¬ idxP (badS a) c 0 ≥ 0 by have := idxP_no hb; omega), decide_eq_true (idxP_no hh)]; rfl
theorem first_some {a x : Int} {c : List Subset.D} (hl : (leafI a x).2 = 0) (hb : ∀ s ∈ c, badS a s = false) {s : Subset.D} (hs : s ∈ c) (hh : hasS a x s = true) : firstI a x c = (idxP (hasS a x) c 0, 0) := by
  unfold firstI
  rw [hl, decide_eq_false (show ¬ idxP (badS a) c 0 ≥ 0 by have := idxP_no hb; omega), decide_eq_false (show ¬ idxP (hasS a x) c 0 < 0 by have := idxP_yes hs hh; omega)]; rfl
theorem cover_ok {h k : Int} {l : List Int} (hu : ∀ y ∈ l, IntKind.u64.has y) (he : (coverI h k l).2 = 0) : lokB h l = true ∧ schE h k = 0 ∧ CovOk h k l (coverI h k l).1 ∧ 1 ≤ h ∧ h ≤ 32 := by
  have hs : schE h k = 0 := by
    unfold coverI at he
    cases h1 : schE h k != 0 with
    | true => rw [h1] at he; exact he
    | false => simpa using h1
  have hl : lokB h l = true := by
    cases h1 : lokB h l with
    | true => rfl
    | false => exact absurd he (cover_err hs h1)
  obtain ⟨_, h2, _⟩ := lok_len hl
  have := highB_iff.1 (chk_zero h2).1
  exact ⟨hl, hs, (cover_law hs hl hu).2, this.1, this.2⟩
/-- What is left when the one that has a leaf is taken out has it not. -/
theorem without_none {a k x : Int} {l : List Int} {c : List Subset.D} (h : CovOk a k l c) (h0 : 0 ≤ a) (hx : IntKind.u64.has x) (hl : leafOk a.toNat x.toNat = true) (hn : ¬ x ∈ l) {j : Nat} (hj : j < c.length) (hp : hasS a x c[j] = true) :
    ∀ s ∈ c.take j ++ c.drop (j + 1), hasS a x s = false := by
  have h1 := h.one h0 hx hl
  rw [if_neg hn] at h1
  have e : c = c.take j ++ c[j] :: c.drop (j + 1) := by rw [← List.drop_eq_getElem_cons hj, List.take_append_drop]
  have h2 : (c.take j ++ c[j] :: c.drop (j + 1)).countP (hasS a x) = 1 := by rw [← e]; exact h1
  rw [List.countP_append, List.countP_cons_of_pos hp] at h2
  have h3 : (c.take j ++ c.drop (j + 1)).countP (hasS a x) = 0 := by rw [List.countP_append]; omega
  intro s hs
  have := List.countP_eq_zero.1 h3 s hs
  simpa using this
theorem law307 {h k x : Int} {l : List Int} (hu : ∀ y ∈ l, IntKind.u64.has y) (hx : IntKind.u64.has x) :
    (bif decide ((l.length : Int) > 30) then oBw true else bif (coverI h k l).2 != 0 then oBw true else lawW h x l (coverI h k l).1 (firstI h x (coverI h k l).1)) = oBw true := by
  cases h30 : decide ((l.length : Int) > 30) with
  | true => rfl
  | false =>
    have h30 := of_decide_eq_false h30
    cases he : (coverI h k l).2 != 0 with
    | true => rfl
    | false =>
      have he : (coverI h k l).2 = 0 := by simpa using he
      obtain ⟨k1, k2, k3, k4, k5⟩ := cover_ok hu he
      simp only [cond_false]
      generalize (coverI h k l).1 = c at *
      obtain ⟨c0, c1, c2⟩ := hasU hx
      have hle := leaf_err (h := h) c0 c1
      unfold lawW
      cases hlf : (leafI h x).2 != 0 with
      | true =>
        have : firstI h x c = (0, 1) := by unfold firstI; rw [hlf]; rfl
        rw [this]; rfl
      | false =>
        have hl0 : (leafI h x).2 = 0 := by simpa using hlf
        have hlo : leafOk h.toNat x.toNat = true := by rw [← hle, hl0]; rfl
        have hbad := k3.bad (show 0 ≤ h by omega)
        have hone := k3.one (show 0 ≤ h by omega) hx hlo
        simp only [cond_false, decide_true, Bool.true_and]
        rw [decide_eq_true (show l.length ≤ 1000000 by omega)]
        simp only [cond_true]
        cases hin : l.any fun y => y == x with
        | true =>
          have hin : x ∈ l := by
            obtain ⟨y, hy, e⟩ := List.any_eq_true.1 hin
            rw [← eq_of_beq e]; exact hy
          rw [if_pos hin] at hone
          rw [first_none hl0 hbad fun s hs => by simpa using List.countP_eq_zero.1 hone s hs]; rfl
        | false =>
          have hin : ¬ x ∈ l := fun hm => by
            have : l.any (fun y => y == x) = true := List.any_eq_true.2 ⟨x, hm, beq_self_eq_true x⟩
            rw [this] at hin; cases hin
          rw [if_neg hin] at hone
          obtain ⟨s, hs, hsp⟩ := List.countP_pos_iff.1 (show 0 < c.countP (hasS h x) by omega)
          have hf := first_some hl0 hbad hs hsp
          obtain ⟨a1, a2, a3, _⟩ := idxP_spec (hasS h x) c 0 (Int.le_refl 0) (idxP_yes hs hsp)
          rw [Int.sub_zero] at a3
          rw [hf]
          generalize idxP (hasS h x) c 0 = q at *
          have hq : q.toNat < c.length := by omega
          have hlen := k3.len
          rw [List.getD_eq_getElem?_getD, List.getElem?_eq_getElem hq, Option.getD_some] at a3
          have hw : IntKind.i64.wrap (q + 1) = q + 1 := wrap64 (by omega) (by omega)
          have ht : (q + 1).toNat = q.toNat + 1 := by omega
          have hno := without_none k3 (show 0 ≤ h by omega) hx hlo hin hq a3
          have hlast : lastW h x c q = oBw true := by
            unfold lastW withoutK
            rw [hw, ht, first_none hl0 (fun s hs => ?_) hno]
            · rfl
            · rcases List.mem_append.1 hs with hs | hs
              · exact hbad s (List.mem_of_mem_take hs)
              · exact hbad s (List.mem_of_mem_drop hs)
          have g1 : ∀ r, gW1 c q r = r := fun r => by unfold gW1; rw [decide_eq_true (show 0 ≤ q by omega), decide_eq_true (show q ≤ (c.length : Int) by omega)]; rfl
          have g2 : ∀ r, gW2 c q r = r := fun r => by unfold gW2; rw [decide_eq_true (show (c.take q.toNat).length * 16 ≤ 140737488355328 by rw [List.length_take]; omega)]; rfl
          have g3 : ∀ r, gW3 c q r = r := fun r => by unfold gW3; rw [hw, decide_eq_true (show 0 ≤ q + 1 by omega), decide_eq_true (show q + 1 ≤ (c.length : Int) by omega)]; rfl
          have g4 : ∀ r, gW4 c q r = r := fun r => by unfold gW4; rw [decide_eq_true (show ((c.take q.toNat).length + (c.drop (IntKind.i64.wrap (q + 1)).toNat).length) * 16 ≤ 140737488355328 by rw [List.length_take, List.length_drop]; omega)]; rfl
          have hreg : regW h x c q = oBw true := by
            unfold regW rA rB rC
            simp only [g1, g2, g3, g4, hlast]
            exact allSame_rep _ 17
          simp only [bne_self_eq_false, cond_false]
          rw [decide_eq_false (show ¬ q < 0 by omega), decide_eq_false (show ¬ q ≥ (c.length : Int) by omega)]
          exact hreg
theorem good307 (x : ADen [.v I, .v I, .v (.sl U), .v U]) : Good Try.prog N307 (encA [.v I, .v I, .v (.sl U), .v U] x) (.one (.bool true)) := by
  have g : GoodS Try.prog N307 (.fn [.v I, .v I, .v (.sl U), .v U] fun _ => (true, .one (.bool true))) := by
    refine good Γ307ok H307 rfl (by kernel_rfl) Λ307 [(0, live307)] (oneLoop (p0 := loop1 F307) (by kernel_rfl) loop307) [.v I, .v I, .v (.sl U), .v U] (by decide) [] _ fun x r hw h => ?_
    obtain ⟨h', k, l, i⟩ := x
    cases h
    refine (r307 h' k l i).trans ?_
    exact law307 hw.2.2.1.2 hw.2.2.2
  exact g.2.1 _ _ (by kernel_rfl)
end Go.AM.Seat
