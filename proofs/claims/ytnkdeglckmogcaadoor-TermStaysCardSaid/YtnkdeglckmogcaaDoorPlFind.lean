/- Terms found: plain laws. -/
import Derived.Test.YtnkdeglckmogcaaDoorPlT
set_option linter.unusedVariables false
namespace Go.AM.Seat
open Go Go.AM Go.Proofs

/-- A term is found where it is. -/
theorem findL_eq {l : List Term.D} {t : Term.D} (h : GoodL l) (hm : mayB t l.length = true) : findL l t = bif !mhas t (entsFrom l 0) then (0, 4) else (mgetD t (entsFrom l 0), 0) := by
  unfold findL findBad; rw [ixL_iff.2 h, ixEnts_eq h, hm]; rfl
theorem findL_zero {l : List Term.D} {t : Term.D} (h : (findL l t).2 = 0) : GoodL l ∧ mayB t l.length = true ∧ ∃ i : Nat, l[i]? = some t ∧ (findL l t).1 = i := by
  have hg := ixL_iff.1 (findL_ok (.inl h))
  cases hm : mayB t l.length with
  | false =>
    have : findL l t = (0, 1) := by unfold findL findBad; rw [hm, ixL_iff.2 hg]; rfl
    rw [this] at h; cases h
  | true =>
    refine ⟨hg, rfl, ?_⟩
    have e := findL_eq hg hm
    cases hh : mhas t (entsFrom l 0) with
    | false => rw [hh] at e; rw [e] at h; cases h
    | true =>
      rw [hh] at e
      have hmem := mhas_ents.1 hh
      cases hq : mget t (entsFrom l 0) with
      | none => exact absurd (mget_ents_none.1 hq) (by simpa using hmem)
      | some x =>
        obtain ⟨j, hj, hx⟩ := mget_ents_some hq
        refine ⟨j, hj, ?_⟩
        rw [e]
        show mgetD t (entsFrom l 0) = j
        unfold mgetD; rw [hq, hx]; simp
theorem findL_at {l : List Term.D} {t : Term.D} {i : Nat} (h : GoodL l) (hm : mayB t l.length = true) (hi : l[i]? = some t) : findL l t = ((i : Int), 0) := by
  have e := findL_eq h hm
  have hmem : t ∈ l := List.mem_of_getElem? hi
  rw [mhas_ents.2 hmem] at e
  rw [e]
  cases hq : mget t (entsFrom l 0) with
  | none => exact absurd (mget_ents_none.1 hq) (by simpa using hmem)
  | some x =>
    obtain ⟨j, hj, hx⟩ := mget_ents_some hq
    have := h.uniq hi hj
    subst this
    show (mgetD t (entsFrom l 0), (0 : Int)) = _
    unfold mgetD; rw [hq, hx]; simp
theorem badP_mono {p i j : Int} (h : badP i p = false) (hij : i ≤ j) : badP j p = false := by
  unfold badP at h ⊢
  cases hp : decide (p < 0) with
  | true => rw [hp] at h; cases h
  | false =>
    rw [hp] at h
    simp only [cond_false, decide_eq_false_iff_not] at h ⊢
    omega
theorem mayB_mono {t : Term.D} {i j : Int} (h : mayB t i = true) (hij : i ≤ j) : mayB t j = true := by
  unfold mayB at h ⊢
  cases hb : mayBad t with
  | true => rw [hb] at h; cases h
  | false =>
    rw [hb] at h
    simp only [cond_false] at h ⊢
    cases hk : t.1 == 1 with
    | true => rw [hk] at h; exact h
    | false =>
      rw [hk] at h
      simp only [cond_false, Bool.not_eq_true', List.any_eq_false] at h ⊢
      intro x hx
      have := h x hx
      simp only [Bool.not_eq_true] at this ⊢
      exact badP_mono this hij
theorem GoodL.take {l : List Term.D} (h : GoodL l) (n : Nat) : GoodL (l.take n) := by
  refine ⟨by have := h.1; simp; omega, fun j t hj => ?_⟩
  rw [List.getElem?_take] at hj
  split at hj
  · rename_i hlt
    obtain ⟨h1, h2⟩ := h.2 j t hj
    refine ⟨h1, ?_⟩
    rw [List.take_take, Nat.min_eq_left (by omega)]
    exact h2
  · cases hj
/-- What was found stays where it was, whatever is made behind it. -/
theorem find_stays {l : List Term.D} {t o : Term.D} (h : (findL l o).2 = 0) (hm : (makeL l t).2.2 = 0) : findL (makeL l t).2.1 o = ((findL l o).1, 0) := by
  obtain ⟨h1, h2, i, h3, h4⟩ := findL_zero h
  obtain ⟨_, _, j, _, k1, _, k2⟩ := makeL_ok hm
  rw [h4]
  rcases k2 with ⟨_, e⟩ | ⟨_, _, _, e⟩
  · rw [e]; exact findL_at h1 h2 h3
  · rw [e] at k1 ⊢
    refine findL_at k1 (mayB_mono h2 (by simp; omega)) ?_
    rw [List.getElem?_append_left (List.getElem?_eq_some_iff.1 h3).1]; exact h3
/-- The place to cut at. -/
theorem cut_ok {n : Nat} {cut : Int} (hn : n ≤ 1000000) : IntKind.i64.wrap ((n : Int) + 1) = (n : Int) + 1 ∧ decide ((n : Int) + 1 = 0) = false ∧
    IntKind.i64.wrap (IntKind.i64.wrap (cut.tmod ((n : Int) + 1) + n) + 1) = cut.tmod ((n : Int) + 1) + n + 1 ∧
    0 ≤ (cut.tmod ((n : Int) + 1) + n + 1).tmod ((n : Int) + 1) ∧ (cut.tmod ((n : Int) + 1) + n + 1).tmod ((n : Int) + 1) ≤ n := by
  have h0 : (0 : Int) < (n : Int) + 1 := by omega
  have h1 : cut.tmod ((n : Int) + 1) < (n : Int) + 1 := Int.tmod_lt_of_pos _ h0
  have h2 : -((n : Int) + 1) < cut.tmod ((n : Int) + 1) := by
    have := Int.tmod_lt_of_pos (-cut) h0
    rw [Int.neg_tmod] at this; omega
  have h3 : 0 ≤ cut.tmod ((n : Int) + 1) + n + 1 := by omega
  have h4 := Int.tmod_lt_of_pos (cut.tmod ((n : Int) + 1) + n + 1) h0
  have h5 := Int.tmod_nonneg ((n : Int) + 1) h3
  have w1 : IntKind.i64.wrap (cut.tmod ((n : Int) + 1) + n) = cut.tmod ((n : Int) + 1) + n := i64_in _ ⟨by omega, by omega⟩
  refine ⟨i64_in _ ⟨by omega, by omega⟩, decide_eq_false (by omega), ?_, h5, by omega⟩
  rw [w1]
  exact i64_in _ ⟨by omega, by omega⟩
end Go.AM.Seat
