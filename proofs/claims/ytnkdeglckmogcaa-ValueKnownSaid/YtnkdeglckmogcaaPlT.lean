/- Terms: plain laws. -/
import Derived.Test.YtnkdeglckmogcaaSeT3
set_option linter.unusedVariables false
namespace Go.AM.Seat
open Go Go.AM Go.Proofs

theorem eqT {a b : Term.D} : eqD Term a b = true ↔ a = b := by
  obtain ⟨a1, a2, a3⟩ := a
  obtain ⟨b1, b2, b3⟩ := b
  simp [eqD]
theorem eqT_false {a b : Term.D} : eqD Term a b = false ↔ a ≠ b := by
  rw [Ne, ← eqT]; simp

def entsFrom : List Term.D → Int → Ents
  | [], _ => []
  | t :: r, i => (t, i) :: entsFrom r (i + 1)
theorem mget_ents_none {t : Term.D} : ∀ {l : List Term.D} {i : Int}, mget t (entsFrom l i) = none ↔ t ∉ l := by
  intro l
  induction l with
  | nil => intro i; simp [entsFrom, mget]
  | cons a l ih =>
    intro i
    simp only [entsFrom, mget]
    cases h : eqD Term t a with
    | true => simp [eqT.1 h]
    | false =>
      have := eqT_false.1 h
      simp only [cond_false, ih, List.mem_cons, this, false_or]
theorem mget_ents_some {t : Term.D} {x : Int} : ∀ {l : List Term.D} {i : Int}, mget t (entsFrom l i) = some x → ∃ j : Nat, l[j]? = some t ∧ x = i + j := by
  intro l
  induction l with
  | nil => intro i h; simp [entsFrom, mget] at h
  | cons a l ih =>
    intro i h
    simp only [entsFrom, mget] at h
    cases hq : eqD Term t a with
    | true =>
      rw [hq] at h
      simp only [cond_true, Option.some.injEq] at h
      exact ⟨0, by simp [eqT.1 hq], by simp [h]⟩
    | false =>
      rw [hq] at h
      obtain ⟨j, h1, h2⟩ := ih h
      exact ⟨j + 1, by simpa using h1, by omega⟩
theorem mput_ents {t : Term.D} : ∀ {l : List Term.D} {i x : Int}, t ∉ l → x = i + l.length → mput t x (entsFrom l i) = entsFrom (l ++ [t]) i := by
  intro l
  induction l with
  | nil => intro i x _ hx; simp [entsFrom, mput] at hx ⊢; exact hx
  | cons a l ih =>
    intro i x hn hx
    simp only [List.mem_cons, not_or] at hn
    simp only [List.cons_append, entsFrom, mput, eqT_false.2 hn.1, cond_false]
    rw [ih hn.2 (by simp at hx; omega)]
theorem mhas_ents {t : Term.D} {l : List Term.D} {i : Int} : mhas t (entsFrom l i) = true ↔ t ∈ l := by
  unfold mhas
  cases h : mget t (entsFrom l i) with
  | none => simp [mget_ents_none.1 h]
  | some x =>
    obtain ⟨j, h1, _⟩ := mget_ents_some h
    simp [List.mem_of_getElem? h1]
theorem mhas_ents_false {t : Term.D} {l : List Term.D} {i : Int} : mhas t (entsFrom l i) = false ↔ t ∉ l := by
  rw [← mhas_ents (i := i)]; simp

/-- Terms that may be. -/
def GoodL (l : List Term.D) : Prop := l.length ≤ 65536 ∧ ∀ (j : Nat) (t : Term.D), l[j]? = some t → mayB t j = true ∧ t ∉ l.take j

theorem ixGo_spec : ∀ (r p : List Term.D), ((ixGo r p.length (entsFrom p 0)).1 = true ↔ ∀ (j : Nat) (t : Term.D), r[j]? = some t → mayB t ((p.length : Int) + j) = true ∧ t ∉ p ++ r.take j) ∧
    ((ixGo r p.length (entsFrom p 0)).1 = true → (ixGo r p.length (entsFrom p 0)).2.1 = entsFrom (p ++ r) 0) := by
  intro r
  induction r with
  | nil => intro p; simp [ixGo]
  | cons a r ih =>
    intro p
    simp only [ixGo, ixBad]
    cases h1 : mhas a (entsFrom p 0) with
    | true =>
      have := mhas_ents.1 h1
      refine ⟨⟨fun h => (by simp at h), fun h => ?_⟩, fun h => by simp at h⟩
      exact absurd (h 0 a rfl).2 (by simp [this])
    | false =>
      have h1 := mhas_ents_false.1 h1
      cases h2 : mayB a p.length with
      | false =>
        refine ⟨⟨fun h => (by simp at h), fun h => ?_⟩, fun h => by simp at h⟩
        have := (h 0 a rfl).1
        simp [h2] at this
      | true =>
        simp only [cond_false, Bool.not_true]
        have e1 : (p.length : Int) + 1 = ((p ++ [a]).length : Nat) := by simp
        rw [mput_ents h1 (by omega), e1]
        obtain ⟨g1, g2⟩ := ih (p ++ [a])
        refine ⟨g1.trans ⟨fun h j t hj => ?_, fun h j t hj => ?_⟩, fun h => by rw [g2 h]; simp⟩
        · cases j with
          | zero =>
            simp only [List.getElem?_cons_zero, Option.some.injEq] at hj
            subst hj
            simpa [h2] using h1
          | succ j =>
            have := h j t (by simpa using hj)
            refine ⟨?_, by simpa using this.2⟩
            have h3 := this.1
            rw [← e1] at h3
            rw [← h3]; congr 1; omega
        · have := h (j + 1) t (by simpa using hj)
          refine ⟨?_, by simpa using this.2⟩
          have h3 := this.1
          rw [← e1, ← h3]; congr 1; omega

theorem ixL_iff {l : List Term.D} : (ixL l).1 = true ↔ GoodL l := by
  unfold ixL
  cases h : decide ((l.length : Int) > 65536) with
  | true =>
    refine ⟨fun h => (by simp at h), fun h' => ?_⟩
    have := h'.1
    simp at h; omega
  | false =>
    simp only [cond_false]
    have := (ixGo_spec l []).1
    simp only [List.length_nil, List.nil_append, entsFrom] at this
    refine this.trans ⟨fun h2 => ⟨by simp at h; omega, fun j t hj => ?_⟩, fun h2 j t hj => ?_⟩
    · have := h2 j t hj; simpa using this
    · have := h2.2 j t hj; simpa using this
theorem checkL_iff {l : List Term.D} : checkL l = 0 ↔ GoodL l := by
  rw [← ixL_iff]
  rcases checkL_cases l with ⟨h, h'⟩ | ⟨h, h'⟩ <;> simp [h, h']
theorem ixEnts_eq {l : List Term.D} (h : GoodL l) : ixEnts l = entsFrom l 0 := by
  have h1 := ixL_iff.2 h
  unfold ixEnts
  rw [h1]
  simp only [cond_true]
  unfold ixL at h1 ⊢
  cases hd : decide ((l.length : Int) > 65536) with
  | true => rw [hd] at h1; simp at h1
  | false =>
    rw [hd] at h1
    simp only [cond_false] at h1 ⊢
    have := (ixGo_spec l []).2 h1
    simpa [entsFrom] using this
theorem GoodL.uniq {l : List Term.D} (h : GoodL l) {i j : Nat} {t : Term.D} (hi : l[i]? = some t) (hj : l[j]? = some t) : i = j := by
  rcases Nat.lt_trichotomy i j with hlt | he | hlt
  · exact absurd (List.mem_of_getElem? (show (l.take j)[i]? = some t by rw [List.getElem?_take, if_pos hlt]; exact hi)) (h.2 j t hj).2
  · exact he
  · exact absurd (List.mem_of_getElem? (show (l.take i)[j]? = some t by rw [List.getElem?_take, if_pos hlt]; exact hj)) (h.2 i t hi).2

/-- What is made: where it is, and the terms. -/
theorem makeL_ok {l : List Term.D} {t : Term.D} (h : (makeL l t).2.2 = 0) : GoodL l ∧ mayB t l.length = true ∧ ∃ i : Nat, (makeL l t).1 = i ∧ GoodL (makeL l t).2.1 ∧ (makeL l t).2.1[i]? = some t ∧
    ((t ∈ l ∧ (makeL l t).2.1 = l) ∨ (t ∉ l ∧ i = l.length ∧ l.length < 65536 ∧ (makeL l t).2.1 = l ++ [t])) := by
  unfold makeL at h ⊢
  have hg : (ixL l).1 = true := by
    refine findL_ok (t := t) ?_
    cases h0 : (findL l t).2 == 0 with
    | true => exact .inl (eq_of_beq h0)
    | false =>
      rw [h0] at h
      cases h4 : (findL l t).2 != 4 with
      | true => rw [h4] at h; simp only [cond_true, cond_false] at h; exact .inl h
      | false => exact .inr (by simpa using h4)
  have hG := ixL_iff.1 hg
  have hE := ixEnts_eq hG
  have hf : findL l t = bif !mayB t l.length then (0, 1) else bif !mhas t (entsFrom l 0) then (0, 4) else (mgetD t (entsFrom l 0), 0) := by
    unfold findL findBad; rw [hg, hE]; rfl
  cases hm : mayB t l.length with
  | false =>
    rw [hm] at hf
    simp only [Bool.not_false, cond_true] at hf
    rw [hf] at h
    simp at h
  | true =>
    rw [hm] at hf
    simp only [Bool.not_true, cond_false] at hf
    refine ⟨hG, rfl, ?_⟩
    cases hh : mhas t (entsFrom l 0) with
    | true =>
      rw [hh] at hf
      simp only [Bool.not_true, cond_false] at hf
      have hmem := mhas_ents.1 hh
      have : ∃ x, mget t (entsFrom l 0) = some x := by
        unfold mhas at hh
        cases hq : mget t (entsFrom l 0) with
        | none => rw [hq] at hh; cases hh
        | some x => exact ⟨x, rfl⟩
      obtain ⟨x, hx⟩ := this
      obtain ⟨j, hj, hxj⟩ := mget_ents_some hx
      have hd : mgetD t (entsFrom l 0) = x := (mgetD_some hx).1
      rw [hf]
      simp only [beq_self_eq_true, cond_true]
      exact ⟨j, by rw [hd, hxj]; simp, hG, hj, .inl ⟨hmem, trivial⟩⟩
    | false =>
      rw [hh] at hf
      simp only [Bool.not_false, cond_true] at hf
      have hmem := mhas_ents_false.1 hh
      rw [hf] at h ⊢
      cases h6 : (l.length : Int) == 65536 with
      | true => rw [h6] at h; simp at h
      | false =>
        have h6' : l.length ≠ 65536 := fun e => by rw [e] at h6; cases h6
        have hl := hG.1
        show ∃ i : Nat, (l.length : Int) = i ∧ GoodL (l ++ [t]) ∧ (l ++ [t])[i]? = some t ∧ _
        refine ⟨l.length, rfl, ⟨by simp; omega, fun j s hj => ?_⟩, by simp, .inr ⟨hmem, rfl, by omega, rfl⟩⟩
        rcases Nat.lt_or_ge j l.length with hlt | hge
        · rw [List.getElem?_append_left hlt] at hj
          rw [List.take_append_of_le_length (by omega)]
          exact hG.2 j s hj
        · have hjl : j < (l ++ [t]).length := (List.getElem?_eq_some_iff.1 hj).1
          obtain rfl : j = l.length := by simp at hjl; omega
          simp only [List.getElem?_concat_length, Option.some.injEq] at hj
          subst hj
          simpa [hm] using hmem
/-- What may be, is made. -/
theorem makeL_may {l : List Term.D} {t : Term.D} (h : GoodL l) (hm : mayB t l.length = true) (hl : l.length < 65536) : (makeL l t).2.2 = 0 := by
  have hg := ixL_iff.2 h
  have hE := ixEnts_eq h
  have hf : findL l t = bif !mhas t (entsFrom l 0) then (0, 4) else (mgetD t (entsFrom l 0), 0) := by
    unfold findL findBad; rw [hg, hE, hm]; rfl
  unfold makeL
  rw [hf]
  cases hh : mhas t (entsFrom l 0) with
  | true => rfl
  | false =>
    have : ((l.length : Int) == 65536) = false := by simp; omega
    simp only [Bool.not_false, cond_true, this]
    rfl
theorem mayB_part {k i n : Int} (hk : k = 2 ∨ k = 3 ∨ k = 4) (h0 : 0 ≤ i) (h1 : i < n) : mayB (k, i, 0) n = true := by
  have hb : badP n i = false := by unfold badP; rw [decide_eq_false (by omega)]; simp; omega
  rcases hk with rfl | rfl | rfl <;> simp [mayB, mayBad, partsL, hb]
theorem mayB_wrap {i j n : Int} (h0 : 0 ≤ i) (h1 : i < n) (h2 : 0 ≤ j) (h3 : j < n) : mayB (5, i, j) n = true := by
  have hb : badP n i = false := by unfold badP; rw [decide_eq_false (by omega)]; simp; omega
  have hc : badP n j = false := by unfold badP; rw [decide_eq_false (by omega)]; simp; omega
  simp [mayB, mayBad, partsL, hb, hc]
theorem makeL_len (l : List Term.D) (t : Term.D) : (makeL l t).2.1.length ≤ l.length + 1 := by
  unfold makeL
  cases (findL l t).2 == 0 <;> cases (findL l t).2 != 4 <;> cases (l.length : Int) == 65536 <;> simp
theorem tAt_get {l : List Term.D} {i : Nat} {t : Term.D} (h : l[i]? = some t) : tAt l i = t := by
  unfold tAt
  simp [List.getD_eq_getElem?_getD, h]
theorem tAt_prefix {l r : List Term.D} {i : Int} (h0 : 0 ≤ i) (h1 : i < l.length) : tAt (l ++ r) i = tAt l i := by
  unfold tAt
  rw [List.getD_eq_getElem?_getD, List.getD_eq_getElem?_getD, List.getElem?_append_left (by omega)]
end Go.AM.Seat
