/- Plain: the first subset in which a leaf is. -/
import Derived.Test.YtoeijiackpanoaaSeFirst
import Derived.Test.YtoeijiackpanoaaPlNode2
set_option linter.unusedVariables false
namespace Go.AM.Seat
open Go Go.AM Go.Proofs

theorem idxP_app (p : Int × Int → Bool) : ∀ (l m : List (Int × Int)) (i : Int), 0 ≤ i → idxP p (l ++ m) i = bif decide (idxP p l i ≥ 0) then idxP p l i else idxP p m (i + l.length) := by
  intro l
  induction l with
  | nil =>
    intro m i _
    show idxP p m i = bif decide ((-1 : Int) ≥ 0) then -1 else idxP p m (i + 0)
    rw [Int.add_zero]; rfl
  | cons x l ih =>
    intro m i hi
    rcases Bool.eq_false_or_eq_true (p x) with hx | hx
    · simp only [List.cons_append, idxP, hx, cond_true]; rw [decide_eq_true (show i ≥ 0 from hi)]; rfl
    · simp only [List.cons_append, idxP, hx, cond_false]
      rw [ih m (i + 1) (by omega)]
      rw [show i + 1 + (l.length : Int) = i + ((x :: l).length : Int) by simp only [List.length_cons]; omega]
theorem idxP_spec (p : Int × Int → Bool) : ∀ (l : List (Int × Int)) (i : Int), 0 ≤ i → idxP p l i ≥ 0 → i ≤ idxP p l i ∧ idxP p l i < i + l.length ∧ p (l.getD (idxP p l i - i).toNat (0, 0)) = true ∧ ∀ j : Nat, (j : Int) < idxP p l i - i → p (l.getD j (0, 0)) = false := by
  intro l
  induction l with
  | nil => intro i _ h; exact absurd h (by show ¬ ((-1 : Int) ≥ 0); decide)
  | cons x l ih =>
    intro i hi h
    simp only [idxP] at h ⊢
    cases hx : p x with
    | true =>
      simp only [cond_true]
      refine ⟨Int.le_refl i, by simp only [List.length_cons]; omega, ?_, fun j hj => by omega⟩
      rw [show (i - i).toNat = 0 by omega]; exact hx
    | false =>
      rw [hx] at h
      simp only [cond_false] at h ⊢
      obtain ⟨h1, h2, h3, h4⟩ := ih (i + 1) (by omega) h
      refine ⟨by omega, by simp only [List.length_cons]; omega, ?_, fun j hj => ?_⟩
      · rw [show (idxP p l (i + 1) - i).toNat = (idxP p l (i + 1) - (i + 1)).toNat + 1 by omega]
        exact h3
      · cases j with
        | zero => exact hx
        | succ j => exact h4 j (by omega)
theorem idxP_none (p : Int × Int → Bool) : ∀ (l : List (Int × Int)) (i : Int), 0 ≤ i → ¬ idxP p l i ≥ 0 → ∀ x ∈ l, p x = false := by
  intro l
  induction l with
  | nil => intro i _ _ x hx; cases hx
  | cons y l ih =>
    intro i hi h x hx
    simp only [idxP] at h
    cases hy : p y with
    | true => rw [hy] at h; exact absurd hi h
    | false =>
      rw [hy] at h
      rcases List.mem_cons.1 hx with rfl | hx
      · exact hy
      · exact ih (i + 1) (by omega) h x hx

theorem first_law (h i : Int) (l more : List (Int × Int)) (hi : IntKind.u64.has i) (hl : ∀ x ∈ l, IntKind.u64.has x.1 ∧ IntKind.u64.has x.2) (hlen : l.length ≤ 60) : lawF h i l (firstI h i l) (firstI h i (l ++ more)) = oB' true := by
  obtain ⟨c0, c1, c2⟩ := hasU hi
  unfold lawF
  cases hf : (leafI h i).2 != 0 with
  | true =>
    have e1 : ∀ m, firstI h i m = (0, 1) := fun m => by unfold firstI; rw [hf]; rfl
    rw [e1, e1]; rfl
  | false =>
    have hlf : leafOk h.toNat i.toNat = true := by
      rw [← leaf_err c0 c1]
      unfold bne at hf
      simpa using hf
    have ex : ∀ m, firstI h i m = bif decide (idxP (badS h) m 0 ≥ 0) then (0, 1) else bif decide (idxP (hasS h i) m 0 < 0) then (0, 4) else (idxP (hasS h i) m 0, 0) := fun m => by unfold firstI; rw [hf]; rfl
    have ab := idxP_app (badS h) l more 0 (Int.le_refl 0)
    have ah := idxP_app (hasS h i) l more 0 (Int.le_refl 0)
    rw [Int.zero_add] at ab ah
    cases hb : decide (idxP (badS h) l 0 ≥ 0) with
    | true =>
      rw [hb] at ab
      have f1 : firstI h i l = (0, 1) := by rw [ex l, hb]; rfl
      have f2 : firstI h i (l ++ more) = (0, 1) := by
        have : idxP (badS h) (l ++ more) 0 ≥ 0 := by rw [ab]; exact of_decide_eq_true hb
        rw [ex (l ++ more), decide_eq_true this]; rfl
      rw [f1, f2]; rfl
    | false =>
      cases hm : decide (idxP (badS h) (l ++ more) 0 ≥ 0) with
      | true =>
        rw [ex (l ++ more), hm]
        have : ((firstI h i l).2 == 1) = false := by
          rw [ex l, hb]
          cases decide (idxP (hasS h i) l 0 < 0) <;> rfl
        rw [this]; rfl
      | false =>
        rw [ex l, ex (l ++ more), hb, hm]
        simp only [cond_false]
        cases hh : decide (idxP (hasS h i) l 0 < 0) with
        | true =>
          have hge : ¬ idxP (hasS h i) l 0 ≥ 0 := by have := of_decide_eq_true hh; omega
          rw [decide_eq_false hge] at ah
          simp only [cond_false] at ah
          cases hj : decide (idxP (hasS h i) (l ++ more) 0 < 0) with
          | true => rfl
          | false =>
            have hge2 := of_decide_eq_false hj
            have : idxP (hasS h i) (l ++ more) 0 ≥ (l.length : Int) := by
              rcases idxP_ge (hasS h i) more (l.length : Int) with e | e
              · rw [ah, e] at hge2; exact absurd (by decide) hge2
              · rw [ah]; exact e
            show (oB' (decide (idxP (hasS h i) (l ++ more) 0 ≥ (l.length : Int)))) = _
            rw [decide_eq_true this]
        | false =>
          have hge : idxP (hasS h i) l 0 ≥ 0 := by have := of_decide_eq_false hh; omega
          rw [decide_eq_true hge] at ah
          simp only [cond_true] at ah
          rw [ah, hh]
          obtain ⟨q1, q2, q3, q4⟩ := idxP_spec (hasS h i) l 0 (Int.le_refl 0) hge
          rw [Int.sub_zero] at q3 q4
          rw [Int.zero_add] at q2
          generalize hk : idxP (hasS h i) l 0 = k at *
          simp only [cond_false]
          show (bif (bif (k != k) then true else decide (k ≥ (l.length : Int))) then oB' false else lastF h i k l) = _
          rw [show (k != k) = false from bne_self_eq_false k, decide_eq_false (show ¬ k ≥ (l.length : Int) by omega)]
          simp only [cond_false]
          have ew : IntKind.i64.wrap (k + 1) = k + 1 := wrap64 (by omega) (by omega)
          unfold lastF
          rw [ew]
          have el : (l.take (k + 1).toNat).length = k.toNat + 1 := by rw [List.length_take]; omega
          rw [decide_eq_true (show 0 ≤ k + 1 by omega), decide_eq_true (show k + 1 ≤ (l.length : Int) by omega), lenMax (by omega)]
          simp only [Bool.and_self, cond_true]
          refine allK_ok fun j _ hj => ?_
          rw [Int.toNat_natCast, el] at hj
          have es : sAt (l.take (k + 1).toNat) (j : Int) = l.getD j (0, 0) := by
            show (l.take (k + 1).toNat).getD (j : Int).toNat (0, 0) = _
            rw [Int.toNat_natCast, List.getD_eq_getElem?_getD, List.getElem?_take_of_lt (by omega), ← List.getD_eq_getElem?_getD]
          have hmem : l.getD j (0, 0) ∈ l := by
            rw [List.getD_eq_getElem?_getD, List.getElem?_eq_getElem (show j < l.length by omega)]
            exact List.getElem_mem _
          have hbad := idxP_none (badS h) l 0 (Int.le_refl 0) (of_decide_eq_false hb) _ hmem
          obtain ⟨u1, u2⟩ := hl _ hmem
          have hok : okS h.toNat (l.getD j (0, 0)).1.toNat (l.getD j (0, 0)).2.toNat = true := by
            unfold badS at hbad
            rw [subE_ne u1 u2] at hbad
            simpa using hbad
          have hv := has_nat (h := h) u1 u2 hi
          rw [hok, hlf] at hv
          simp only [Bool.and_self, cond_true] at hv
          unfold badF
          rw [es, hv]
          show (bif ((0 : Int) != 0) then true else hasN h.toNat (l.getD j (0, 0)).1.toNat (l.getD j (0, 0)).2.toNat i.toNat != ((j : Int) == k)) = false
          have hS : hasS h i (l.getD j (0, 0)) = hasN h.toNat (l.getD j (0, 0)).1.toNat (l.getD j (0, 0)).2.toNat i.toNat := by unfold hasS; rw [hv]; rfl
          rw [← hS]
          by_cases hjk : (j : Int) = k
          · have : j = k.toNat := by omega
            rw [this, q3, show (((k.toNat : Nat) : Int) == k) = true by simp; omega]; rfl
          · rw [q4 j (by omega), show ((j : Int) == k) = false by simpa using hjk]; rfl
theorem good305 (x : ADen [.v I, .v U, .v (.sl Subset), .v (.sl Subset)]) : Good Try.prog N305 (encA [.v I, .v U, .v (.sl Subset), .v (.sl Subset)] x) (.one (.bool true)) := by
  have g : GoodS Try.prog N305 (.fn [.v I, .v U, .v (.sl Subset), .v (.sl Subset)] fun _ => (true, .one (.bool true))) := by
    refine good Γ305ok H305 rfl (by kernel_rfl) Λ305 [(0, live305)] (oneLoop (p0 := loopK F305 0) (by kernel_rfl) loop305) [.v I, .v U, .v (.sl Subset), .v (.sl Subset)] (by decide) [] _ fun x r hw e => ?_
    obtain ⟨h, i, l, more⟩ := x
    cases e
    refine (r305 h i l more).trans ?_
    cases h1 : decide ((l.length : Int) > 60) with
    | true => rfl
    | false =>
      cases h2 : decide ((more.length : Int) > 60) with
      | true => rfl
      | false =>
        have k1 : l.length ≤ 60 := by have := of_decide_eq_false h1; omega
        have k2 : more.length ≤ 60 := by have := of_decide_eq_false h2; omega
        simp only [cond_false]
        rw [decide_eq_true (show l.length * 16 ≤ 140737488355328 by omega), decide_eq_true (show (l.length + more.length) * 16 ≤ 140737488355328 by omega)]
        exact first_law h i l more hw.2.1 (fun x hx => hw.2.2.1.2 x hx) k1
  exact g.2.1 _ _ (by kernel_rfl)
end Go.AM.Seat
