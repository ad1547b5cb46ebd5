/- Plain laws: the definition's Within is the code's own. -/
import Derived.Test.YtnkdeglckmogcaaSeER
set_option linter.unusedVariables false
set_option linter.unusedSimpArgs false
set_option maxRecDepth 100000
namespace Go.AM.Seat
open Go Go.AM Go.Proofs

theorem sorted_ext : ∀ (a b : List Int), a.Pairwise (· < ·) → b.Pairwise (· < ·) → (∀ x, x ∈ a ↔ x ∈ b) → a = b := by
  intro a
  induction a with
  | nil =>
    intro b _ _ h
    cases b with
    | nil => rfl
    | cons y b => exact absurd ((h y).2 (by simp)) (by simp)
  | cons x a ih =>
    intro b ha hb h
    cases b with
    | nil => exact absurd ((h x).1 (by simp)) (by simp)
    | cons y b =>
      obtain ⟨ha1, ha2⟩ := List.pairwise_cons.1 ha
      obtain ⟨hb1, hb2⟩ := List.pairwise_cons.1 hb
      have exy : x = y := by
        rcases List.mem_cons.1 ((h x).1 (by simp)) with e | e
        · exact e
        · rcases List.mem_cons.1 ((h y).2 (by simp)) with f | f
          · exact f.symm
          · have := hb1 x e; have := ha1 y f; omega
      subst exy
      rw [ih b ha2 hb2 fun z => ⟨fun hz => ?_, fun hz => ?_⟩]
      · rcases List.mem_cons.1 ((h z).1 (by simp [hz])) with e | e
        · have := ha1 z hz; omega
        · exact e
      · rcases List.mem_cons.1 ((h z).2 (by simp [hz])) with e | e
        · have := hb1 z hz; omega
        · exact e
theorem bool1_set {b : List Bool} {p x : Int} (hp : 0 ≤ p) (hx : 0 ≤ x) (hl : p < b.length) : bool1 (b.set p.toNat true) x = if x = p then true else bool1 b x := by
  unfold bool1
  rw [List.getD_eq_getElem?_getD, List.getD_eq_getElem?_getD, List.getElem?_set]
  by_cases h : x = p
  · subst h; rw [if_pos rfl, if_pos rfl, if_pos (show x.toNat < b.length by omega)]; rfl
  · rw [if_neg h, if_neg (show ¬ p.toNat = x.toNat by omega)]
theorem seL_spec : ∀ (ps : List Int) (b : List Bool), (∀ p ∈ ps, 0 ≤ p ∧ p < (b.length : Int)) → ∃ b', seL ps b = some b' ∧ b'.length = b.length ∧ ∀ x, 0 ≤ x → (bool1 b' x = true ↔ bool1 b x = true ∨ x ∈ ps) := by
  intro ps
  induction ps with
  | nil => intro b _; exact ⟨b, rfl, rfl, fun x _ => by simp⟩
  | cons p ps ih =>
    intro b h
    have hp := h p (by simp)
    obtain ⟨b', e1, e2, e3⟩ := ih (b.set p.toNat true) fun q hq => by rw [List.length_set]; exact h q (by simp [hq])
    refine ⟨b', ?_, by rw [e2, List.length_set], fun x hx => ?_⟩
    · simp only [seL]; rw [inB_of hp.1 hp.2]; exact e1
    · rw [e3 x hx, bool1_set hp.1 hx hp.2]
      by_cases h : x = p
      · simp [h]
      · simp [h]
theorem dnF_spec {l : List Term.D} (hg : GoodL l) : ∀ (m : Nat) (b : List Bool), m ≤ b.length → m ≤ l.length → ∃ b', dnF l m b = some b' ∧ b'.length = b.length ∧
    ∀ x, 0 ≤ x → (bool1 b' x = true ↔ ∃ y, 0 ≤ y ∧ bool1 b y = true ∧ (x = y ∨ (y < (m : Int) ∧ Reach l y x))) := by
  intro m
  induction m with
  | zero =>
    intro b _ _
    refine ⟨b, rfl, rfl, fun x hx => ⟨fun h => ⟨x, hx, h, .inl rfl⟩, ?_⟩⟩
    rintro ⟨y, y0, hy, h⟩
    rcases h with rfl | h
    · exact hy
    · omega
  | succ m ih =>
    intro b hb hl
    simp only [dnF]
    rw [inB_lt (show m < b.length by omega), inB_lt (show m < l.length by omega)]
    simp only [cond_true]
    cases h1 : bool1 b m with
    | false =>
      simp only [cond_false]
      obtain ⟨b', e1, e2, e3⟩ := ih b (by omega) (by omega)
      refine ⟨b', e1, e2, fun x hx => (e3 x hx).trans ⟨?_, ?_⟩⟩
      · rintro ⟨y, y0, hy, h⟩
        exact ⟨y, y0, hy, h.imp id fun h => ⟨by omega, h.2⟩⟩
      · rintro ⟨y, y0, hy, h⟩
        refine ⟨y, y0, hy, h.imp id fun h => ⟨?_, h.2⟩⟩
        have : y ≠ (m : Int) := fun e => by rw [e, h1] at hy; cases hy
        omega
    | true =>
      simp only [cond_true]
      have hpl := parts_lt hg (show (0 : Int) ≤ m by omega) (show (m : Int) < l.length by omega)
      obtain ⟨b1, s1, s2, s3⟩ := seL_spec (partsL (tAt l m)) b fun p hp => by have := hpl p hp; omega
      rw [s1]
      obtain ⟨b', e1, e2, e3⟩ := ih b1 (by omega) (by omega)
      refine ⟨b', e1, by rw [e2, s2], fun x hx => (e3 x hx).trans ⟨?_, ?_⟩⟩
      · rintro ⟨y, y0, hy, h⟩
        rcases (s3 y y0).1 hy with hy | hy
        · exact ⟨y, y0, hy, h.imp id fun h => ⟨by omega, h.2⟩⟩
        · refine ⟨m, by omega, h1, .inr ⟨by omega, ?_⟩⟩
          rcases h with rfl | ⟨_, h⟩
          · exact reach_cons hy .self
          · exact reach_cons hy h
      · rintro ⟨y, y0, hy, h⟩
        rcases h with rfl | ⟨h, hr⟩
        · exact ⟨x, y0, (s3 x y0).2 (.inl hy), .inl rfl⟩
        · rcases Int.lt_or_eq_of_le (show y ≤ (m : Int) by omega) with hlt | rfl
          · exact ⟨y, y0, (s3 y y0).2 (.inl hy), .inr ⟨hlt, hr⟩⟩
          · rcases reach_head hr with rfl | ⟨p, hp, hr⟩
            · exact ⟨m, y0, (s3 m y0).2 (.inl hy), .inl rfl⟩
            · have := hpl p hp
              exact ⟨p, this.1, (s3 p this.1).2 (.inr hp), .inr ⟨this.2, hr⟩⟩
theorem coll_spec : ∀ (b : List Bool) (k : Int), (coll b k).Pairwise (· < ·) ∧ ∀ x, x ∈ coll b k ↔ ∃ j : Nat, j < b.length ∧ bool1 b j = true ∧ x = k + j := by
  intro b
  induction b with
  | nil => intro k; exact ⟨.nil, fun x => by simp [coll]⟩
  | cons a b ih =>
    intro k
    obtain ⟨i1, i2⟩ := ih (k + 1)
    have hs : ∀ j : Nat, bool1 (a :: b) (j + 1 : Nat) = bool1 b j := fun j => by unfold bool1; simp
    have h0 : bool1 (a :: b) (0 : Nat) = a := by unfold bool1; simp
    have hm : ∀ x, (∃ j : Nat, j < (a :: b).length ∧ bool1 (a :: b) j = true ∧ x = k + j) ↔ (a = true ∧ x = k) ∨ x ∈ coll b (k + 1) := by
      intro x
      rw [i2]
      constructor
      · rintro ⟨j, h1, h2, h3⟩
        cases j with
        | zero => exact .inl ⟨h0 ▸ h2, by omega⟩
        | succ j => exact .inr ⟨j, by simpa using h1, hs j ▸ h2, by omega⟩
      · rintro (⟨h1, h2⟩ | ⟨j, h1, h2, h3⟩)
        · exact ⟨0, by simp, by rw [h0]; exact h1, by omega⟩
        · exact ⟨j + 1, by simpa using h1, by rw [hs]; exact h2, by omega⟩
    cases a with
    | false =>
      refine ⟨i1, fun x => ?_⟩
      rw [hm]
      simp [coll]
    | true =>
      refine ⟨List.pairwise_cons.2 ⟨fun y hy => ?_, i1⟩, fun x => ?_⟩
      · obtain ⟨j, _, _, h⟩ := (i2 y).1 hy
        omega
      · rw [hm]
        simp [coll]
theorem lenB_of {b : List Bool} (h : b.length ≤ 65536) : lenB b = true := by
  unfold lenB roomI
  rw [decide_eq_true (show (b.length : Int) ≤ 9223372036854775807 by omega), decide_eq_true (show (([] : List Int).length + b.length) * 8 ≤ 140737488355328 by simp; omega), decide_eq_true (rfl : (b.length : Int) = b.length)]; rfl
theorem r83_within (l : List Term.D) (i : Int) : run Γ83 (Λ83 F83F) live83 F83 (encA [.v (.sl Term), .v I] (l, i)) [.sl true I] = some (rlE (withinI l i).1 (withinI l i).2) := by
  rw [r83]
  rcases thereI_or (l := l) (i := i) with ht | ⟨h1, h2⟩
  · obtain ⟨w1, w2, w3, w4⟩ := within_mem ht
    obtain ⟨hg, h0, hi⟩ := there_iff.1 ht
    have hmx := hg.1
    rw [ht]
    have hw : IntKind.i64.wrap (i + 1) = i + 1 := wrap64 (by omega) (by omega)
    have hmk : mkOk i = true := by
      unfold mkOk
      rw [hw, decide_eq_true (show 0 ≤ i + 1 by omega), decide_eq_true (Int.le_refl _), decide_eq_true (show (1 : Int) * (i + 1) ≤ 281474976710656 by omega)]; rfl
    have hbl : (b0 i).length = i.toNat + 1 := by unfold b0; rw [hw, List.length_set, List.length_replicate]; omega
    have hin : inB i (List.replicate (IntKind.i64.wrap (i + 1)).toNat Ty.bool.dflt).length = true := by rw [hw, List.length_replicate]; exact inB_of h0 (by omega)
    have hb0 : ∀ y, 0 ≤ y → (bool1 (b0 i) y = true ↔ y = i) := by
      intro y y0
      unfold b0
      rw [hw, bool1_set h0 y0 (by rw [List.length_replicate]; omega)]
      by_cases h : y = i
      · simp [h]
      · rw [if_neg h]
        have : bool1 (List.replicate (i + 1).toNat Ty.bool.dflt) y = false := by
          unfold bool1
          rw [List.getD_eq_getElem?_getD, List.getElem?_replicate]
          split <;> rfl
        simp [this, h]
    obtain ⟨b', e1, e2, e3⟩ := dnF_spec hg (i.toNat + 1) (b0 i) (by omega) (by omega)
    have hF : F83F l i (b0 i) = some b' := by
      unfold F83F
      rw [decide_eq_true (show -1 ≤ i by omega), decide_eq_true (show i ≤ 9223372036854775807 by omega), show (i + 1).toNat = i.toNat + 1 by omega]
      exact e1
    have hc : coll b' 0 = (withinI l i).1 := by
      obtain ⟨c1, c2⟩ := coll_spec b' 0
      refine sorted_ext _ _ c1 w3 fun x => ?_
      rw [c2, w2]
      have key : ∀ x, 0 ≤ x → (bool1 b' x = true ↔ Reach l i x) := by
        intro x x0
        rw [e3 x x0]
        constructor
        · rintro ⟨y, y0, hy, h⟩
          obtain rfl := (hb0 y y0).1 hy
          rcases h with rfl | h
          · exact .self
          · exact h.2
        · intro hr
          exact ⟨i, h0, (hb0 i h0).2 rfl, .inr ⟨by omega, hr⟩⟩
      constructor
      · rintro ⟨j, h1, h2, rfl⟩
        rw [Int.zero_add]
        exact (key j (by omega)).1 h2
      · intro hr
        have hrg := reach_rng hg h0 hi hr
        exact ⟨x.toNat, by rw [e2, hbl]; omega, by rw [show ((x.toNat : Nat) : Int) = x by omega]; exact (key x hrg.1).2 hr, by omega⟩
    rw [hmk, hin, hF]
    show (bif lenB b' then some (rlE ([] ++ coll b' 0) 0) else none) = _
    rw [lenB_of (by rw [e2, hbl]; omega), List.nil_append, hc, w1]; rfl
  · have h01 : thereI l i = 1 := by
      unfold thereI at h2 ⊢
      cases h3 : bif decide (i < 0) then true else decide (i ≥ (l.length : Int)) with
      | true => rfl
      | false =>
        rw [h3] at h2
        rcases checkL_cases l with ⟨h, h'⟩ | ⟨h, h'⟩
        · first | exact h | exact absurd h h2
        · first | exact h | exact absurd h h2
    rw [h1, h01]; rfl
theorem g83 : GoodS Try.prog N83 s35 := by
  refine good (.cons g102 (.cons g36 (.nil _))) H83 rfl (by kernel_rfl) (Λ83 F83F) live83 (threeLoops (p0 := lkW F83 0) (p1 := lkW F83 1) (p2 := lkW F83 2) (by kernel_rfl) loop83o loop83i loop83c) [.v (.sl Term), .v I] (by decide) [.sl true I] _ fun x r hw e => ?_
  obtain ⟨l, i⟩ := x
  cases e
  exact r83_within l i
end Go.AM.Seat
