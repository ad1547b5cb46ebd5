/- Plain laws: values: what is wrapped is taken out. -/
import Derived.Test.YtnkdeglckmogcaaPlTerm
import Derived.Test.YtnkdeglckmogcaaSe7
set_option linter.unusedVariables false
namespace Go.AM.Seat
open Go Go.AM Go.Proofs

theorem bv_of_int {a : Int} (h : IntKind.u64.has a) : ((BitVec.ofInt 64 a).toNat : Int) = a := by
  obtain ⟨h1, h2⟩ := h
  simp [IntKind.min, IntKind.max, IntKind.signed, IntKind.bits] at h1 h2
  rw [BitVec.toNat_ofInt]
  simp
  omega
theorem int_of_bv (b : BitVec 64) : BitVec.ofInt 64 (b.toNat : Int) = b := by
  apply BitVec.eq_of_toNat_eq
  rw [BitVec.toNat_ofInt]
  have := b.isLt
  simp
  omega
theorem xorU_eq (a b : Int) : xorU a b = ((BitVec.ofInt 64 a ^^^ BitVec.ofInt 64 b).toNat : Int) := by
  unfold xorU
  have := (BitVec.ofInt 64 a ^^^ BitVec.ofInt 64 b).isLt
  exact wrapU (by omega) (by omega)
theorem xorU_has (a b : Int) : IntKind.u64.has (xorU a b) := wrap_has _ _
theorem xorU_back {a : Int} (h : IntKind.u64.has a) (b : Int) : xorU (xorU a b) b = a := by
  rw [xorU_eq, xorU_eq, int_of_bv, BitVec.xor_assoc, BitVec.xor_self, BitVec.xor_zero]
  exact bv_of_int h
theorem xorB_back {a : Block.D} (h : WF Block a) (b : Block.D) : xorB (xorB a b) b = a := by
  unfold xorB
  rw [xorU_back h.1, xorU_back h.2]
theorem sealedEq_iff {a b : Sealed.D} : sealedEq a b = true ↔ a = b := by
  obtain ⟨⟨a1, a2⟩, a3, a4⟩ := a
  obtain ⟨⟨b1, b2⟩, b3, b4⟩ := b
  simp [sealedEq, and_assoc]
theorem unwrap_wrap {k b : Block.D} (h : WF Block b) : unwrapR k (wrapB k b) = (b, 0) := by
  have : openB k (wrapB k b) = b := xorB_back h _
  unfold unwrapR
  rw [this, sealedEq_iff.2 rfl]
  rfl

/-- What is wrapped. -/
theorem wrapV_ok {l : List Term.D} {k v : Value.D} (h : (wrapV l k v).2.2 = 0) : checkV l k = 0 ∧ checkV l v = 0 ∧ ownV l k = false ∧ ownV l v = false ∧ v.1 = k.1 ∧ GoodL l ∧
    ((k.1 = false ∧ k = octV k.2.2.1 ∧ v = octV v.2.2.1 ∧ wrapV l k v = (sealV (wrapB k.2.2.1 v.2.2.1), l, 0)) ∨
     (k.1 = true ∧ k = symV k.2.2.2.2 ∧ v = symV v.2.2.2.2 ∧ 0 ≤ k.2.2.2.2 ∧ k.2.2.2.2 < l.length ∧ 0 ≤ v.2.2.2.2 ∧ v.2.2.2.2 < l.length ∧
      ∃ (i : Nat) (r : List Term.D), wrapV l k v = (symV i, l ++ r, 0) ∧ GoodL (l ++ r) ∧ (l ++ r)[i]? = some (5, k.2.2.2.2, v.2.2.2.2))) := by
  have e : wrapV l k v = bif isV l [false, false] [k, v] != 0 then (zeroV, [], isV l [false, false] [k, v]) else bif k.1 then madeV l (5, k.2.2.2.2, v.2.2.2.2) else (sealV (wrapB k.2.2.1 v.2.2.1), l, 0) := rfl
  cases h0 : isV l [false, false] [k, v] != 0 with
  | true =>
    rw [e, h0] at h
    simp only [cond_true] at h
    rw [h] at h0; cases h0
  | false =>
    have hz : isV l [false, false] [k, v] = 0 := by simpa using h0
    obtain ⟨c1, c2, o1, o2, hk⟩ := isV_two.1 hz
    have hG := checkL_iff.1 (checkV_zero.1 c1).1
    rw [h0] at e
    simp only [cond_false] at e
    refine ⟨c1, c2, o1, o2, hk, hG, ?_⟩
    cases hk1 : k.1 with
    | false =>
      rw [hk1] at e hk
      refine .inl ⟨rfl, ?_, ?_, e⟩
      · rcases plain_oct c1 hk1 with ⟨p, _⟩ | ⟨_, p⟩
        · unfold ownV at o1; rw [hk1] at o1; simp only [cond_false] at o1; rw [o1] at p; cases p
        · exact p
      · rcases plain_oct c2 hk with ⟨p, _⟩ | ⟨_, p⟩
        · unfold ownV at o2; rw [hk] at o2; simp only [cond_false] at o2; rw [o2] at p; cases p
        · exact p
    | true =>
      rw [hk1] at e hk
      simp only [cond_true] at e
      obtain ⟨p1, p2, p3⟩ := plain_sym c1 hk1
      obtain ⟨q1, q2, q3⟩ := plain_sym c2 hk
      rw [e] at h
      obtain ⟨i, r, m1, m2, m3, m4, m5⟩ := madeV_ok h
      exact .inr ⟨rfl, p1, q1, p2, p3, q2, q3, i, r, e.trans m1, m3, m4⟩
theorem wrapV_bad {l : List Term.D} {k v : Value.D} (h : (wrapV l k v).2.2 ≠ 0) : (wrapV l k v).1 = zeroV ∧ (wrapV l k v).2.1 = [] := by
  unfold wrapV at h ⊢
  cases h0 : isV l [false, false] [k, v] != 0 with
  | true => exact ⟨rfl, rfl⟩
  | false =>
    rw [h0] at h
    simp only [cond_false] at h ⊢
    cases hk : k.1 with
    | false => rw [hk] at h; exact absurd rfl h
    | true =>
      rw [hk] at h
      simp only [cond_true] at h ⊢
      rcases madeV_cases l (5, k.2.2.2.2, v.2.2.2.2) with ⟨_, h2⟩ | ⟨_, h2⟩
      · rw [h2]; exact ⟨rfl, rfl⟩
      · rw [h2] at h; exact absurd rfl h

theorem ownV_sym (l : List Term.D) (i : Int) : ownV l (symV i) = ((tAt l i).1 == 5) := rfl

/-- WHAT IS WRAPPED IS TAKEN OUT. -/
theorem back3_true {l : List Term.D} {k v o : Value.D} (hv : WF Value v) : run Γ3 noL [] F3 (encA V4 (l, k, v, o)) [] = B true := by
  rw [r3]
  cases h60 : decide ((l.length : Int) > 60) with
  | true => rfl
  | false =>
    simp only [cond_false]
    cases he : (wrapV l k v).2.2 != 0 with
    | true =>
      obtain ⟨h1, h2⟩ := wrapV_bad (by simpa using he)
      rw [h1, h2]
      rfl
    | false =>
      simp only [cond_false]
      have he' : (wrapV l k v).2.2 = 0 := by simpa using he
      obtain ⟨c1, c2, o1, o2, hk, hG, hcase⟩ := wrapV_ok he'
      unfold backOut backEnd
      rcases hcase with ⟨hk1, ek, ev, ew⟩ | ⟨hk1, ek, ev, k0, k1, v0, v1, i, r, ew, hG', hi⟩
      · rw [ew]
        have hz : isV l [false, true] [k, sealV (wrapB k.2.2.1 v.2.2.1)] = 0 := isV_two.2 ⟨c1, check_seal hG _, o1, rfl, hk1.symm⟩
        have hu : unwrapV l k (sealV (wrapB k.2.2.1 v.2.2.1)) = (v, 0) := by
          unfold unwrapV
          rw [hz, hk1]
          show (octV (unwrapR k.2.2.1 (wrapB k.2.2.1 v.2.2.1)).1, (unwrapR k.2.2.1 (wrapB k.2.2.1 v.2.2.1)).2) = (v, 0)
          rw [unwrap_wrap hv.2.2.1, ← ev]
        simp only [hu, valEq_iff.2 rfl, check_seal hG, hk1]
        rfl
      · rw [ew]
        have hkc : checkV (l ++ r) k = 0 := by rw [ek]; exact check_sym hG' k0 (Int.lt_of_lt_of_le k1 (Int.ofNat_le.2 (by simp)))
        have hil : i < (l ++ r).length := (List.getElem?_eq_some_iff.1 hi).1
        have hwc : checkV (l ++ r) (symV i) = 0 := check_sym hG' (by omega) (by omega)
        have hko : ownV (l ++ r) k = false := by
          rw [ek, ownV_sym, tAt_prefix k0 k1, ← ownV_sym, ← ek]; exact o1
        have hwo : ownV (l ++ r) (symV i) = true := by rw [ownV_sym, tAt_get hi]; rfl
        have hz : isV (l ++ r) [false, true] [k, symV i] = 0 := isV_two.2 ⟨hkc, hwc, hko, hwo, hk1.symm⟩
        have hun : ∀ o : Value.D, o.1 = true → isV (l ++ r) [false, true] [o, symV i] = 0 → unwrapV (l ++ r) o (symV i) = bif k.2.2.2.2 != o.2.2.2.2 then (zeroV, 7) else (v, 0) := by
          intro o ho hzo
          unfold unwrapV
          rw [hzo, ho]
          show (bif (tAt (l ++ r) i).2.1 != o.2.2.2.2 then (zeroV, 7) else (symV (tAt (l ++ r) i).2.2, 0)) = _
          rw [tAt_get hi, ← ev]
        have hu : unwrapV (l ++ r) k (symV i) = (v, 0) := by
          rw [hun k hk1 hz]; simp
        simp only [hu, valEq_iff.2 rfl, hwc, hk1]
        show B (bif !o.1 then true else (((unwrapV (l ++ r) o (symV i)).2 == 0) == valEq o k)) = B true
        congr 1
        cases ho : o.1 with
        | false => rfl
        | true =>
          simp only [Bool.not_true, cond_false]
          by_cases hok : o = k
          · rw [hok, hu, valEq_iff.2 rfl]; rfl
          · have hne : valEq o k = false := by
              cases hq : valEq o k with
              | false => rfl
              | true => exact absurd (valEq_iff.1 hq) hok
            rw [hne]
            cases hzo : isV (l ++ r) [false, true] [o, symV i] == 0 with
            | true =>
              have hzo' := eq_of_beq hzo
              rw [hun o ho hzo']
              obtain ⟨oc, _⟩ := isV_two.1 hzo'
              obtain ⟨eo, _⟩ := plain_sym oc ho
              have : k.2.2.2.2 ≠ o.2.2.2.2 := fun e => hok (by rw [eo, ek, e])
              have : (k.2.2.2.2 != o.2.2.2.2) = true := by simpa using this
              rw [this]
              rfl
            | false =>
              have hb : (isV (l ++ r) [false, true] [o, symV i] != 0) = true := by simpa using hzo
              unfold unwrapV
              rw [hb]
              simp only [cond_true, hzo]; rfl
theorem good3 (x : ADen V4) : Good Try.prog N3 (encA V4 x) (.one (.bool true)) := by
  have g : GoodS Try.prog N3 (.fn V4 fun _ => (true, .one (.bool true))) := by
    refine good (.cons g16 (.cons g17 (.cons g18 (.cons g19 (.nil _))))) H3 rfl (by kernel_rfl) noL [] (noLoops (by kernel_rfl)) V4 (by decide) [] _ fun x r hw h => ?_
    obtain ⟨l, k, v, o⟩ := x
    cases h
    exact back3_true hw.2.2.1
  exact g.2.1 _ _ (by kernel_rfl)
end Go.AM.Seat
