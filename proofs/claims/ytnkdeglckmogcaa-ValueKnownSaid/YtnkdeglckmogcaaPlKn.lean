/- know: plain laws: what is known is what can be derived, each once. -/
import Derived.Test.YtnkdeglckmogcaaSeKD
import Derived.Test.YtnkdeglckmogcaaPlT
set_option linter.unusedVariables false
set_option linter.unusedSimpArgs false
set_option maxRecDepth 100000
namespace Go.AM.Seat
open Go Go.AM Go.Proofs

abbrev InL (l : List Term.D) (x : Int) : Prop := 0 ≤ x ∧ x < (l.length : Int)
theorem inB_iff {x : Int} {n : Nat} : inB x n = true ↔ 0 ≤ x ∧ x < (n : Int) := by
  unfold inB; simp
/-- A term's kind, and its parts. -/
def kd (l : List Term.D) (x : Int) : Int := (tAt l x).1
def pa (l : List Term.D) (x : Int) : Int := (tAt l x).2.1
def pb (l : List Term.D) (x : Int) : Int := (tAt l x).2.2
/-- A term that may be, looked at. -/
structure TOk (k a b i : Int) : Prop where
  fk : 1 ≤ k ∧ k ≤ 5
  fa : k ≠ 1 → 0 ≤ a ∧ a < i
  fb : k = 5 → 0 ≤ b ∧ b < i
  fz : k ≠ 5 → b = 0
theorem badP_false {i p : Int} : badP i p = false ↔ 0 ≤ p ∧ p < i := by
  unfold badP
  cases h : decide (p < 0) with
  | true => have := of_decide_eq_true h; simp; omega
  | false => have := of_decide_eq_false h; simp; omega
theorem tok_of (k a b i : Int) (h : mayB (k, a, b) i = true) : TOk k a b i := by
  unfold mayB at h
  cases hb : mayBad (k, a, b) with
  | true => rw [hb] at h; cases h
  | false =>
    rw [hb] at h
    have hk : 1 ≤ k ∧ k ≤ 5 ∧ (k ≠ 5 → b = 0) := by
      unfold mayBad at hb
      change (bif (bif (decide (k < 1)) then true else decide (k > 5)) then true else bif k != 5 then b != 0 else false) = false at hb
      cases h1 : decide (k < 1) with
      | true => rw [h1] at hb; cases hb
      | false =>
        cases h2 : decide (k > 5) with
        | true => rw [h1, h2] at hb; cases hb
        | false =>
          rw [h1, h2] at hb
          have := of_decide_eq_false h1
          have := of_decide_eq_false h2
          refine ⟨by omega, by omega, fun h5 => ?_⟩
          have h6 : (k != 5) = true := by simpa using h5
          rw [h6] at hb
          simpa using hb
    change (bif k == 1 then _ else !(partsL (k, a, b)).any (badP i)) = true at h
    cases h1 : k == 1 with
    | true =>
      have e := eq_of_beq h1
      exact ⟨⟨hk.1, hk.2.1⟩, fun h => absurd e h, fun h => by omega, hk.2.2⟩
    | false =>
      rw [h1] at h
      simp only [cond_false, Bool.not_eq_true'] at h
      have hn : k ≠ 1 := by simpa using h1
      have hp : ∀ p ∈ partsL (k, a, b), 0 ≤ p ∧ p < i := fun p hp => badP_false.1 (by have := List.any_eq_false.1 h p hp; simpa using this)
      have hpl : partsL (k, a, b) = bif k == 2 then [a] else bif k == 3 then [a] else bif k == 4 then [a] else bif k == 5 then [a, b] else [] := rfl
      rw [hpl] at hp
      refine ⟨⟨hk.1, hk.2.1⟩, fun _ => hp _ ?_, fun h5 => hp _ ?_, hk.2.2⟩
      · have : k = 2 ∨ k = 3 ∨ k = 4 ∨ k = 5 := by omega
        rcases this with rfl | rfl | rfl | rfl <;> simp
      · subst h5; simp
theorem tAt_at {l : List Term.D} {n : Nat} (h : n < l.length) : l[n]? = some (tAt l n) := by
  rw [List.getElem?_eq_getElem h]
  unfold tAt
  simp [h]
theorem GoodL.tok {l : List Term.D} (hg : GoodL l) {x : Int} (hx : InL l x) : TOk (kd l x) (pa l x) (pb l x) x := by
  obtain ⟨n, rfl⟩ := Int.eq_ofNat_of_zero_le hx.1
  exact tok_of _ _ _ _ (hg.2 n _ (tAt_at (by have := hx.2; omega))).1
theorem tOf_at {l : List Term.D} {n : Nat} (h : n < l.length) : tOf l n = (kd l n, pa l n, pb l n) := by
  unfold tOf kd pa pb tAt
  rw [List.getElem?_eq_getElem h]
  simp [h]
theorem GoodL.okT {l : List Term.D} (hg : GoodL l) : okT l := by
  intro i hi
  rw [tOf_at hi]
  have h := hg.tok (x := (i : Int)) ⟨by omega, by omega⟩
  exact ⟨fun h1 => by have := h.fa h1; exact ⟨this.1, by show pa l i < _; omega⟩, fun h5 => by have := h.fb h5; exact ⟨this.1, by show pb l i < _; omega⟩⟩
theorem GoodL.okTB {l : List Term.D} (hg : GoodL l) : okTB l = true := @decide_eq_true _ (Classical.propDecidable _) ⟨by have := hg.1; omega, hg.okT⟩

/-! ### uses -/
theorem addU_get (us : List (List Int)) (a : Nat) (i x : Int) (j : Nat) : x ∈ (addU us a i).getD j [] ↔ x ∈ us.getD j [] ∨ (j = a ∧ a < us.length ∧ x = i) := by
  unfold addU
  rw [List.getD_eq_getElem?_getD, List.getElem?_set]
  by_cases h : a = j
  · subst h
    by_cases hl : a < us.length
    · rw [if_pos rfl, if_pos hl]
      simp [hl]
    · rw [if_pos rfl, if_neg hl]
      simp [hl, List.getElem?_eq_none (Nat.le_of_not_lt hl)]
  · rw [if_neg h]
    simp [List.getD_eq_getElem?_getD, Ne.symm h]
theorem addU_len (us : List (List Int)) (a : Nat) (i : Int) : (addU us a i).length = us.length := by unfold addU; simp
theorem stepU_len (us : List (List Int)) (t : Int × Int × Int) (i : Int) : (stepU us t i).length = us.length := by
  unfold stepU
  cases t.1 != 1 <;> cases t.1 == 5 <;> simp [addU_len]
theorem useU_len (T : Nat → Int × Int × Int) (n : Nat) : ∀ k, (useU T n k).length = n := by
  intro k
  induction k with
  | zero => simp [useU]
  | succ k ih => rw [useU, stepU_len, ih]
theorem useU_get (T : Nat → Int × Int × Int) (n : Nat) : ∀ (k j : Nat) (x : Int), j < n → (x ∈ (useU T n k).getD j [] ↔ ∃ u : Nat, u < k ∧ x = u ∧ (((T u).1 ≠ 1 ∧ (T u).2.1.toNat = j) ∨ ((T u).1 = 5 ∧ (T u).2.2.toNat = j))) := by
  intro k
  induction k with
  | zero =>
    intro j x hj
    constructor
    · intro h
      rw [useU, List.getD_eq_getElem?_getD, List.getElem?_replicate] at h
      split at h <;> cases h
    · rintro ⟨u, hu, _⟩; omega
  | succ k ih =>
    intro j x hj
    have hs : x ∈ (stepU (useU T n k) (T k) k).getD j [] ↔ x ∈ (useU T n k).getD j [] ∨ (x = (k : Int) ∧ (((T k).1 ≠ 1 ∧ (T k).2.1.toNat = j) ∨ ((T k).1 = 5 ∧ (T k).2.2.toNat = j))) := by
      have hl := useU_len T n k
      unfold stepU
      cases h1 : (T k).1 != 1 <;> cases h5 : (T k).1 == 5 <;> simp only [cond_true, cond_false] <;> simp only [bne_iff_ne, ne_eq, beq_iff_eq, bne_eq_false_iff_eq, beq_eq_false_iff_ne] at h1 h5
      · simp [h1]
      · omega
      · rw [addU_get, hl]
        constructor
        · rintro (h | ⟨rfl, _, h⟩)
          · exact .inl h
          · exact .inr ⟨h, .inl ⟨h1, rfl⟩⟩
        · rintro (h | ⟨h, ⟨_, e⟩ | ⟨e, _⟩⟩)
          · exact .inl h
          · exact .inr ⟨e.symm, by omega, h⟩
          · exact absurd e h5
      · rw [addU_get, addU_len, addU_get, hl]
        constructor
        · rintro ((h | ⟨rfl, _, h⟩) | ⟨rfl, _, h⟩)
          · exact .inl h
          · exact .inr ⟨h, .inl ⟨h1, rfl⟩⟩
          · exact .inr ⟨h, .inr ⟨h5, rfl⟩⟩
        · rintro (h | ⟨h, ⟨_, e⟩ | ⟨_, e⟩⟩)
          · exact .inl (.inl h)
          · exact .inl (.inr ⟨e.symm, by omega, h⟩)
          · exact .inr ⟨e.symm, by omega, h⟩
    rw [useU, hs, ih j x hj]
    constructor
    · rintro (⟨u, hu, h⟩ | ⟨h, h'⟩)
      · exact ⟨u, by omega, h⟩
      · exact ⟨k, by omega, h, h'⟩
    · rintro ⟨u, hu, h, h'⟩
      rcases Nat.lt_or_eq_of_le (Nat.le_of_lt_succ hu) with h9 | rfl
      · exact .inl ⟨u, h9, h, h'⟩
      · exact .inr ⟨h, h'⟩
theorem addU_row (us : List (List Int)) (a : Nat) (i : Int) (j : Nat) : ((addU us a i).getD j []).length ≤ (us.getD j []).length + 1 := by
  unfold addU
  rw [List.getD_eq_getElem?_getD, List.getElem?_set]
  split
  · rename_i h
    subst h
    split
    · simp
    · simp
  · rw [List.getD_eq_getElem?_getD]; omega
theorem useU_row (T : Nat → Int × Int × Int) (n : Nat) : ∀ (k j : Nat), ((useU T n k).getD j []).length ≤ 2 * k := by
  intro k
  induction k with
  | zero =>
    intro j
    rw [useU, List.getD_eq_getElem?_getD, List.getElem?_replicate]
    split <;> simp
  | succ k ih =>
    intro j
    have := ih j
    rw [useU]
    unfold stepU
    cases (T k).1 != 1 <;> cases (T k).1 == 5 <;> simp only [cond_true, cond_false]
    · omega
    · have := addU_row (useU T n k) (T k).2.2.toNat k j; omega
    · have := addU_row (useU T n k) (T k).2.1.toNat k j; omega
    · have h1 := addU_row (addU (useU T n k) (T k).2.1.toNat k) (T k).2.2.toNat k j
      have h2 := addU_row (useU T n k) (T k).2.1.toNat k j
      omega
/-- Which terms a term is a part of. -/
theorem uses_mem {l : List Term.D} (hg : GoodL l) {a x : Int} (ha : InL l a) : x ∈ (useL l).getD a.toNat [] ↔ InL l x ∧ ((kd l x ≠ 1 ∧ pa l x = a) ∨ (kd l x = 5 ∧ pb l x = a)) := by
  unfold useL
  rw [useU_get _ _ _ _ _ (by have := ha.1; have := ha.2; omega)]
  constructor
  · rintro ⟨u, hu, rfl, h⟩
    rw [tOf_at hu] at h
    have ht := hg.tok (x := (u : Int)) ⟨by omega, by omega⟩
    refine ⟨⟨by omega, by omega⟩, h.imp (fun h => ⟨h.1, ?_⟩) fun h => ⟨h.1, ?_⟩⟩
    · have h2 : (pa l u).toNat = a.toNat := h.2
      have := ht.fa h.1; have := ha.1; omega
    · have h2 : (pb l u).toNat = a.toNat := h.2
      have := ht.fb h.1; have := ha.1; omega
  · rintro ⟨hx, h⟩
    obtain ⟨u, rfl⟩ := Int.eq_ofNat_of_zero_le hx.1
    have hu : u < l.length := by have := hx.2; omega
    refine ⟨u, hu, rfl, ?_⟩
    rw [tOf_at hu]
    exact h.imp (fun h => ⟨h.1, by rw [h.2]⟩) fun h => ⟨h.1, by rw [h.2]⟩

/-! ### what can be derived -/
/-- It follows at once. -/
def Fol (l : List Term.D) (S : Int → Prop) (x : Int) : Prop :=
  (InL l x ∧ kd l x ≠ 1 ∧ S (pa l x) ∧ (kd l x = 5 → S (pb l x))) ∨ ∃ w, InL l w ∧ kd l w = 5 ∧ S w ∧ S (pa l w) ∧ x = pb l w
inductive Der (l : List Term.D) (h : List Int) : Int → Prop
  | base {x : Int} : x ∈ h → Der l h x
  | made {x : Int} : InL l x → kd l x ≠ 1 → Der l h (pa l x) → (kd l x = 5 → Der l h (pb l x)) → Der l h x
  | out {w : Int} : InL l w → kd l w = 5 → Der l h w → Der l h (pa l w) → Der l h (pb l w)
theorem Der.fol {l : List Term.D} {h : List Int} {x : Int} (H : Fol l (Der l h) x) : Der l h x := by
  rcases H with ⟨h1, h2, h3, h4⟩ | ⟨w, h1, h2, h3, h4, rfl⟩
  · exact .made h1 h2 h3 h4
  · exact .out h1 h2 h3 h4
theorem Fol.mono {l : List Term.D} {S T : Int → Prop} (h : ∀ x, S x → T x) {x : Int} (H : Fol l S x) : Fol l T x := by
  rcases H with ⟨h1, h2, h3, h4⟩ | ⟨w, h1, h2, h3, h4, rfl⟩
  · exact .inl ⟨h1, h2, h _ h3, fun e => h _ (h4 e)⟩
  · exact .inr ⟨w, h1, h2, h _ h3, h _ h4, rfl⟩
theorem Der.least {l : List Term.D} {h : List Int} {S : Int → Prop} (h0 : ∀ x ∈ h, S x) (hS : ∀ x, Fol l S x → S x) : ∀ x, Der l h x → S x := by
  intro x H
  induction H with
  | base hx => exact h0 _ hx
  | made h1 h2 _ _ h3 h4 => exact hS _ (.inl ⟨h1, h2, h3, h4⟩)
  | out h1 h2 _ _ h3 h4 => exact hS _ (.inr ⟨_, h1, h2, h3, h4, rfl⟩)
theorem Der.rng {l : List Term.D} (hg : GoodL l) {h : List Int} (hh : ∀ x ∈ h, InL l x) {x : Int} (H : Der l h x) : InL l x := by
  induction H with
  | base hx => exact hh _ hx
  | made h1 => exact h1
  | out h1 h5 _ _ _ _ => have h9 := (hg.tok h1).fb h5; have := h1.2; exact ⟨h9.1, by omega⟩
/-! ### one mind -/
theorem mAt_set (b : List Bool) (x y : Int) (hx : 0 ≤ x) (hy : 0 ≤ y) (hl : x < (b.length : Int)) : mAt (b.set x.toNat true) y = (decide (y = x) || mAt b y) := by
  unfold mAt
  rw [List.getD_eq_getElem?_getD, List.getElem?_set]
  by_cases h : x = y
  · subst h
    rw [if_pos rfl, if_pos (by omega)]; simp
  · rw [if_neg (by omega), ← List.getD_eq_getElem?_getD, decide_eq_false (fun e => h e.symm), Bool.false_or]
structure KOk (l : List Term.D) (D : Int → Prop) (s : Kn) : Prop where
  len : s.1.length = l.length
  mem : ∀ x, InL l x → (mAt s.1 x = true ↔ x ∈ s.2)
  nd : s.2.Nodup
  rng : ∀ x ∈ s.2, InL l x
  der : ∀ x ∈ s.2, D x
theorem learn1_ok {l : List Term.D} {D : Int → Prop} {s : Kn} (h : KOk l D s) {x : Int} (hx : InL l x) (hD : D x) : KOk l D (learn1 s x) ∧ (∃ t, (learn1 s x).2 = s.2 ++ t) ∧ x ∈ (learn1 s x).2 ∧ ∀ y ∈ (learn1 s x).2, y ∈ s.2 ∨ y = x := by
  unfold learn1
  cases hm : mAt s.1 x with
  | true => exact ⟨h, ⟨[], by simp⟩, (h.mem x hx).1 hm, fun y hy => .inl hy⟩
  | false =>
    have hn : x ∉ s.2 := fun e => by rw [(h.mem x hx).2 e] at hm; cases hm
    simp only [cond_false]
    refine ⟨⟨by simp [h.len], fun y hy => ?_, ?_, fun y hy => ?_, fun y hy => ?_⟩, ⟨[x], rfl⟩, by simp, fun y hy => by simpa using hy⟩
    · rw [mAt_set _ _ _ hx.1 hy.1 (by rw [h.len]; exact hx.2), Bool.or_eq_true, h.mem y hy, List.mem_append, List.mem_singleton, decide_eq_true_eq, Or.comm]
    · rw [List.nodup_append]
      exact ⟨h.nd, by simp, fun a ha c hc e => hn (by rw [List.mem_singleton.1 hc] at e; rw [← e]; exact ha)⟩
    · rcases List.mem_append.1 hy with hy | hy
      · exact h.rng y hy
      · rw [List.mem_singleton.1 hy]; exact hx
    · rcases List.mem_append.1 hy with hy | hy
      · exact h.der y hy
      · rw [List.mem_singleton.1 hy]; exact hD
theorem learnL_ok {l : List Term.D} {D : Int → Prop} : ∀ (ls : List Int) {s : Kn}, KOk l D s → (∀ x ∈ ls, InL l x) → (∀ x ∈ ls, D x) → KOk l D (learnL s ls) ∧ (∃ t, (learnL s ls).2 = s.2 ++ t) ∧ (∀ x ∈ ls, x ∈ (learnL s ls).2) ∧ ∀ y ∈ (learnL s ls).2, y ∈ s.2 ∨ y ∈ ls := by
  intro ls
  induction ls with
  | nil => intro s h _ _; exact ⟨h, ⟨[], by simp [learnL]⟩, fun x hx => (by cases hx), fun y hy => .inl hy⟩
  | cons x ls ih =>
    intro s h hr hD
    obtain ⟨a1, ⟨t1, a2⟩, a3, a4⟩ := learn1_ok h (hr x (by simp)) (hD x (by simp))
    obtain ⟨b1, ⟨t2, b2⟩, b3, b4⟩ := ih a1 (fun y hy => hr y (by simp [hy])) (fun y hy => hD y (by simp [hy]))
    refine ⟨b1, ⟨t1 ++ t2, ?_⟩, fun y hy => ?_, fun y hy => ?_⟩
    · show (learnL (learn1 s x) ls).2 = _
      rw [b2, a2, List.append_assoc]
    · rcases List.mem_cons.1 hy with rfl | hy
      · show _ ∈ (learnL (learn1 s _) ls).2
        rw [b2]; exact List.mem_append_left _ a3
      · exact b3 y hy
    · rcases b4 y hy with h9 | h9
      · rcases a4 y h9 with h8 | h8
        · exact .inl h8
        · exact .inr (by simp [h8])
      · exact .inr (by simp [h9])
/-! ### looked at -/
theorem made_ok {l : List Term.D} (hg : GoodL l) {D : Int → Prop} {s : Kn} (h : KOk l D s) {u : Int} (hu : InL l u) : (madeO l s.1 u).isSome = true ∧ ((madeO l s.1 u).getD false = true ↔ kd l u ≠ 1 ∧ pa l u ∈ s.2 ∧ (kd l u = 5 → pb l u ∈ s.2)) := by
  have ht := hg.tok hu
  have e : madeO l s.1 u = bif inB u l.length then bif kd l u != 1 then bif inB (pa l u) s.1.length then bif mAt s.1 (pa l u) then bif kd l u != 5 then some true else bif inB (pb l u) s.1.length then some (mAt s.1 (pb l u)) else none else some false else none else some false else none := rfl
  rw [e, inB_iff.2 hu]
  simp only [cond_true]
  cases h1 : kd l u != 1 with
  | false => simp at h1; simp [h1]
  | true =>
    have h1' : kd l u ≠ 1 := by simpa using h1
    have ha := ht.fa h1'
    have hA : InL l (pa l u) := ⟨ha.1, by have := hu.2; omega⟩
    rw [h.len, inB_iff.2 hA]
    simp only [cond_true]
    cases h2 : mAt s.1 (pa l u) with
    | false =>
      have : pa l u ∉ s.2 := fun e => by rw [(h.mem _ hA).2 e] at h2; cases h2
      simp [this]
    | true =>
      have hm := (h.mem _ hA).1 h2
      cases h5 : kd l u != 5 with
      | true =>
        have : kd l u ≠ 5 := by simpa using h5
        simp [hm, this, h1']
      | false =>
        have h5' : kd l u = 5 := by simpa using h5
        have hb := ht.fb h5'
        have hB : InL l (pb l u) := ⟨hb.1, by have := hu.2; omega⟩
        rw [inB_iff.2 hB]
        simp only [cond_true, cond_false]
        have := h.mem _ hB
        simp [this, hm, h1', h5']
theorem out_ok {l : List Term.D} (hg : GoodL l) {D : Int → Prop} {s : Kn} (h : KOk l D s) {u : Int} (hu : InL l u) : (outO l s.1 u).isSome = true ∧ ((outO l s.1 u).getD false = true ↔ kd l u = 5 ∧ u ∈ s.2 ∧ pa l u ∈ s.2) := by
  have ht := hg.tok hu
  have e : outO l s.1 u = bif inB u l.length then bif kd l u == 5 then bif inB u s.1.length then bif mAt s.1 u then bif inB u l.length then bif inB (pa l u) s.1.length then some (mAt s.1 (pa l u)) else none else none else some false else none else some false else none := rfl
  rw [e, inB_iff.2 hu]
  simp only [cond_true]
  cases h5 : kd l u == 5 with
  | false =>
    have : kd l u ≠ 5 := by simpa using h5
    simp [this]
  | true =>
    have h5' : kd l u = 5 := by simpa using h5
    have ha := ht.fa (by omega)
    have hA : InL l (pa l u) := ⟨ha.1, by have := hu.2; omega⟩
    rw [h.len, inB_iff.2 hu, inB_iff.2 hA]
    simp only [cond_true]
    cases h2 : mAt s.1 u with
    | false =>
      have : u ∉ s.2 := fun e => by rw [(h.mem _ hu).2 e] at h2; cases h2
      simp [this]
    | true =>
      have hm := (h.mem _ hu).1 h2
      have := h.mem _ hA
      simp [this, hm, h5']
theorem nextU_mem {l : List Term.D} (hg : GoodL l) {D : Int → Prop} {s : Kn} (h : KOk l D s) {u : Int} (hu : InL l u) (y : Int) : y ∈ nextU l s.1 u ↔ (y = u ∧ kd l u ≠ 1 ∧ pa l u ∈ s.2 ∧ (kd l u = 5 → pb l u ∈ s.2)) ∨ (y = pb l u ∧ kd l u = 5 ∧ u ∈ s.2 ∧ pa l u ∈ s.2) := by
  have e : nextU l s.1 u = (bif (madeO l s.1 u).getD false then [u] else []) ++ (bif (outO l s.1 u).getD false then [pb l u] else []) := rfl
  rw [e, List.mem_append, ← (made_ok hg h hu).2, ← (out_ok hg h hu).2]
  cases (madeO l s.1 u).getD false <;> cases (outO l s.1 u).getD false <;> simp
theorem row_in {l : List Term.D} (hg : GoodL l) {i : Int} (hi : InL l i) : ∀ u ∈ row68 (useL l) i, InL l u := by
  intro u hu
  unfold row68 at hu
  rcases List.mem_append.1 hu with hu | hu
  · rw [List.mem_singleton.1 hu]; exact hi
  · exact ((uses_mem hg hi).1 hu).1
theorem row_len {l : List Term.D} (hg : GoodL l) (i : Int) : (row68 (useL l) i).length ≤ 131073 := by
  have h1 := useU_row (tOf l) l.length l.length i.toNat
  have h2 := hg.1
  have e : (row68 (useL l) i).length = 1 + ((useU (tOf l) l.length l.length).getD i.toNat []).length := by unfold row68 useL; rw [List.length_append]; rfl
  omega
theorem next_ok {l : List Term.D} (hg : GoodL l) {D : Int → Prop} {s : Kn} (h : KOk l D s) {i : Int} (hi : InL l i) : next68ok l s.1 (useL l) i = true := by
  unfold next68ok
  have h1 := row_len hg i
  rw [inB_iff.2 ⟨hi.1, by have := hi.2; unfold useL; rw [useU_len]; exact this⟩, decide_eq_true (by omega), Bool.true_and, Bool.true_and]
  refine List.all_eq_true.2 fun u hu => ?_
  have hu := row_in hg hi u hu
  unfold okU
  rw [(made_ok hg h hu).1, (out_ok hg h hu).1, inB_iff.2 hu]; rfl
theorem next_len {l : List Term.D} (hg : GoodL l) (b : List Bool) (i : Int) : (nextL l b (useL l) i).length ≤ 262146 := by
  have h1 := row_len hg i
  have h2 := flat_len (nextU_len l b) (row68 (useL l) i)
  unfold nextL; omega
theorem next_in {l : List Term.D} (hg : GoodL l) {D : Int → Prop} (hD : ∀ x, Fol l D x → D x) {s : Kn} (h : KOk l D s) {i : Int} (hi : InL l i) : ∀ y ∈ nextL l s.1 (useL l) i, InL l y ∧ D y := by
  intro y hy
  unfold nextL at hy
  obtain ⟨u, hu, hy⟩ := List.mem_flatMap.1 hy
  have hu := row_in hg hi u hu
  have ht := hg.tok hu
  rcases (nextU_mem hg h hu y).1 hy with ⟨rfl, h1, h2, h3⟩ | ⟨rfl, h1, h2, h3⟩
  · exact ⟨hu, hD _ (.inl ⟨hu, h1, h.der _ h2, fun e => h.der _ (h3 e)⟩)⟩
  · have hb := ht.fb h1
    exact ⟨⟨hb.1, by have := hu.2; omega⟩, hD _ (.inr ⟨u, hu, h1, h.der _ h2, h.der _ h3, rfl⟩)⟩
/-- What follows with one that is looked at. -/
theorem next_has {l : List Term.D} (hg : GoodL l) {D : Int → Prop} {s : Kn} (h : KOk l D s) {S : Int → Prop} (hS : ∀ x, S x → x ∈ s.2) {c : Int} (hc : InL l c) {x : Int} (H : Fol l (fun y => S y ∨ y = c) x) (hcs : c ∈ s.2) : x ∈ nextL l s.1 (useL l) c ∨ Fol l S x := by
  have hT : ∀ y, (S y ∨ y = c) → y ∈ s.2 := fun y hy => hy.elim (hS y) fun e => e ▸ hcs
  have row : ∀ u, (u = c ∨ u ∈ (useL l).getD c.toNat []) → InL l u → x ∈ nextU l s.1 u → x ∈ nextL l s.1 (useL l) c := fun u hu _ hx => by
    unfold nextL
    refine List.mem_flatMap.2 ⟨u, ?_, hx⟩
    unfold row68
    rcases hu with rfl | hu
    · exact List.mem_append_left _ (by simp)
    · exact List.mem_append_right _ hu
  rcases H with ⟨h1, h2, h3, h4⟩ | ⟨w, h1, h2, h3, h4, rfl⟩
  · by_cases e1 : pa l x = c
    · exact .inl (row x (.inr ((uses_mem hg hc).2 ⟨h1, .inl ⟨h2, e1⟩⟩)) h1 ((nextU_mem hg h h1 x).2 (.inl ⟨rfl, h2, hT _ h3, fun e => hT _ (h4 e)⟩)))
    · by_cases e2 : kd l x = 5 ∧ pb l x = c
      · exact .inl (row x (.inr ((uses_mem hg hc).2 ⟨h1, .inr e2⟩)) h1 ((nextU_mem hg h h1 x).2 (.inl ⟨rfl, h2, hT _ h3, fun e => hT _ (h4 e)⟩)))
      · refine .inr (.inl ⟨h1, h2, h3.resolve_right e1, fun e => (h4 e).resolve_right fun e' => e2 ⟨e, e'⟩⟩)
  · by_cases e1 : w = c
    · exact .inl (row w (.inl e1) h1 ((nextU_mem hg h h1 _).2 (.inr ⟨rfl, h2, hT _ h3, hT _ h4⟩)))
    · by_cases e2 : pa l w = c
      · exact .inl (row w (.inr ((uses_mem hg hc).2 ⟨h1, .inl ⟨by omega, e2⟩⟩)) h1 ((nextU_mem hg h h1 _).2 (.inr ⟨rfl, h2, hT _ h3, hT _ h4⟩)))
      · exact .inr (.inr ⟨w, h1, h2, h3.resolve_right e1, h4.resolve_right e2, rfl⟩)
theorem nodup_in {n : Nat} {q : List Int} (hq : q.Nodup) (h : ∀ x ∈ q, 0 ≤ x ∧ x < (n : Int)) : q.length ≤ n := by
  induction n generalizing q with
  | zero =>
    cases q with
    | nil => exact Nat.le_refl _
    | cons x q => have := h x (by simp); omega
  | succ n ih =>
    have h1 := ih (q := q.erase (n : Int)) (hq.erase _) fun x hx => by
      have hm := (hq.mem_erase_iff).1 hx
      have := h x hm.2
      have := hm.1
      omega
    have h2 := List.length_erase (a := (n : Int)) (l := q)
    split at h2 <;> omega
/-- All that follows comes. -/
theorem all_ok {l : List Term.D} (hg : GoodL l) {D : Int → Prop} (hD : ∀ x, Fol l D x → D x) : ∀ (f k : Nat) {s : Kn}, KOk l D s → k ≤ s.2.length → l.length + 1 ≤ f + k → (∀ x, Fol l (fun y => y ∈ s.2.take k) x → x ∈ s.2) →
    ∃ s', allO l (useL l) f s k = some s' ∧ KOk l D s' ∧ (∃ t, s'.2 = s.2 ++ t) ∧ ∀ x, Fol l (fun y => y ∈ s'.2) x → x ∈ s'.2 := by
  intro f
  induction f with
  | zero =>
    intro k s h hk hf _
    have := nodup_in h.nd h.rng
    omega
  | succ f ih =>
    intro k s h hk hf hc
    have hlen := nodup_in h.nd h.rng
    have hmx := hg.1
    rw [allO]
    rcases Nat.lt_or_ge k s.2.length with hlt | hge
    · have hkA : kA s.2 k = s.2[k] := by unfold kA; simp [hlt]
      have hm : kA s.2 k ∈ s.2 := by rw [hkA]; exact List.getElem_mem hlt
      have hi := h.rng _ hm
      have hnx := next_in hg hD h hi
      obtain ⟨a1, ⟨t, a2⟩, a3, a4⟩ := learnL_ok (nextL l s.1 (useL l) (kA s.2 k)) h (fun x hx => (hnx x hx).1) (fun x hx => (hnx x hx).2)
      have hok : okLearn s (nextL l s.1 (useL l) (kA s.2 k)) = true := by
        have h2 := next_len hg s.1 (kA s.2 k)
        unfold okLearn
        rw [decide_eq_true (by omega), show kRoom (s.2.length + (nextL l s.1 (useL l) (kA s.2 k)).length) = true from decide_eq_true (by omega), Bool.true_and, Bool.true_and]
        exact List.all_eq_true.2 fun x hx => by rw [h.len]; exact inB_iff.2 (hnx x hx).1
      rw [decide_eq_true hlt, next_ok hg h hi, hok]
      simp only [Bool.and_self, cond_true]
      obtain ⟨s', b1, b2, ⟨t', b3⟩, b4⟩ := ih (k + 1) a1 (by rw [a2, List.length_append]; omega) (by omega) fun x hx => by
        have htk : ∀ y, y ∈ (learnL s (nextL l s.1 (useL l) (kA s.2 k))).2.take (k + 1) → y ∈ s.2.take k ∨ y = kA s.2 k := fun y hy => by
          rw [a2, List.take_append_of_le_length (by omega), List.take_succ_eq_append_getElem hlt, List.mem_append, List.mem_singleton] at hy
          rw [hkA]; exact hy
        rcases next_has hg h (S := fun y => y ∈ s.2.take k) (fun y hy => List.mem_of_mem_take hy) hi (hx.mono htk) hm with h9 | h9
        · exact a3 x h9
        · rw [a2]; exact List.mem_append_left _ (hc x h9)
      exact ⟨s', b1, b2, ⟨t ++ t', by rw [b3, a2, List.append_assoc]⟩, b4⟩
    · obtain rfl : k = s.2.length := by omega
      rw [decide_eq_false (Nat.lt_irrefl _), show kRoom s.2.length = true from decide_eq_true (by omega)]
      exact ⟨s, rfl, h, ⟨[], by simp⟩, fun x hx => hc x (by rwa [List.take_length])⟩
end Go.AM.Seat
