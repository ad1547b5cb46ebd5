/- Plain laws: what comes of a term: its value, by what it is made of. -/
import Derived.Test.YtoeijiackpanoaaDoorSeEv
import Derived.Test.YtoeijiackpanoaaDoorPlTerm
set_option linter.unusedVariables false
set_option linter.unusedSimpArgs false
set_option maxRecDepth 100000
namespace Go.AM.Seat
open Go Go.AM Go.Proofs

def plainW (v : Int → Value.D) (t : Term.D) (g : List Block.D) : Value.D :=
  bif t.1 == 1 then octV (bAt g t.2.1) else bif t.1 == 5 then sealV (wrapB (v t.2.1).2.2.1 (v t.2.2).2.2.1) else octV (partR (v t.2.1).2.2.1 (IntKind.i64.wrap (t.1 - 2))).1
theorem plainT_eq (es : Vs) (t : Term.D) (g : List Block.D) : plainT es t g = plainW (vOf es) t g := rfl
def valN (l : List Term.D) (g : List Block.D) : Nat → Int → Value.D
  | 0, _ => zeroV
  | f + 1, i => plainW (valN l g f) (tAt l i) g
def valT (l : List Term.D) (g : List Block.D) (i : Int) : Value.D := valN l g (i.toNat + 1) i
theorem k15 (k : Int) (h2 : ¬ k < 1) (h3 : ¬ k > 5) : k = 1 ∨ k = 2 ∨ k = 3 ∨ k = 4 ∨ k = 5 := by omega
theorem u0_has : IntKind.u64.has 0 := ⟨by decide, by decide⟩
theorem kinds {l : List Term.D} (hg : GoodL l) {x : Int} (h0 : 0 ≤ x) (h1 : x < l.length) : (tAt l x).1 = 1 ∨ (tAt l x).1 = 2 ∨ (tAt l x).1 = 3 ∨ (tAt l x).1 = 4 ∨ (tAt l x).1 = 5 := by
  obtain ⟨n, rfl⟩ := Int.eq_ofNat_of_zero_le h0
  have hn : n < l.length := by omega
  have hm := (hg.2 n _ (List.getElem?_eq_getElem hn)).1
  rw [tAt_get (List.getElem?_eq_getElem hn)]
  generalize l[n] = t at hm ⊢
  obtain ⟨k, a, b⟩ := t
  unfold mayB at hm
  cases hb : mayBad (k, a, b) with
  | true => rw [hb] at hm; cases hm
  | false =>
    unfold mayBad at hb
    cases h2 : decide (k < 1) with
    | true => simp only [h2] at hb; cases hb
    | false =>
      cases h3 : decide (k > 5) with
      | true => simp only [h2, h3] at hb; cases hb
      | false =>
        have h2 : ¬ (k : Int) < 1 := of_decide_eq_false h2
        have h3 : ¬ (k : Int) > 5 := of_decide_eq_false h3
        exact k15 k h2 h3
theorem parts_of (t : Term.D) : partsL t = if t.1 = 2 ∨ t.1 = 3 ∨ t.1 = 4 then [t.2.1] else if t.1 = 5 then [t.2.1, t.2.2] else [] := by
  obtain ⟨k, a, b⟩ := t
  unfold partsL
  simp only
  by_cases h2 : k = 2
  · subst h2; rfl
  · by_cases h3 : k = 3
    · subst h3; rfl
    · by_cases h4 : k = 4
      · subst h4; rfl
      · by_cases h5 : k = 5
        · subst h5; rfl
        · rw [beq_false_of_ne h2, beq_false_of_ne h3, beq_false_of_ne h4, beq_false_of_ne h5, if_neg (by rintro (h | h | h); exact h2 h; exact h3 h; exact h4 h), if_neg h5]; rfl
theorem plainW_congr {v v' : Int → Value.D} {t : Term.D} (hk : t.1 = 1 ∨ t.1 = 2 ∨ t.1 = 3 ∨ t.1 = 4 ∨ t.1 = 5) (h : ∀ p ∈ partsL t, v p = v' p) (g : List Block.D) : plainW v t g = plainW v' t g := by
  rw [parts_of] at h
  unfold plainW
  rcases hk with e | e | e | e | e <;> simp [e] at h ⊢ <;> simp [h]
theorem valN_stable {l : List Term.D} (hg : GoodL l) (g : List Block.D) : ∀ (f : Nat) (i : Int), 0 ≤ i → i < l.length → i.toNat < f → valN l g f i = valT l g i := by
  intro f
  induction f using Nat.strongRecOn with
  | _ f ih =>
    intro i h0 h1 hf
    match f, hf with
    | f + 1, hf =>
      unfold valT
      simp only [valN]
      refine plainW_congr (kinds hg h0 h1) (fun p hp => ?_) g
      have hpl := parts_lt hg h0 h1 p hp
      rw [ih f (Nat.lt_succ_self _) p hpl.1 (by omega) (by omega)]
      rcases Nat.lt_or_ge i.toNat (f + 1) with h | h
      · rcases Nat.lt_or_eq_of_le (Nat.le_of_lt_succ hf) with h9 | h9
        · rw [ih i.toNat (by omega) p hpl.1 (by omega) (by omega)]
        · rw [h9, ih f (Nat.lt_succ_self _) p hpl.1 (by omega) (by omega)]
      · omega
theorem valT_eq {l : List Term.D} (hg : GoodL l) (g : List Block.D) {i : Int} (h0 : 0 ≤ i) (h1 : i < l.length) : valT l g i = plainW (valT l g) (tAt l i) g := by
  unfold valT
  simp only [valN]
  refine plainW_congr (kinds hg h0 h1) (fun p hp => ?_) g
  have hpl := parts_lt hg h0 h1 p hp
  exact valN_stable hg g _ p hpl.1 (by omega) (by omega)
theorem valT_prefix {l r : List Term.D} (hg : GoodL l) (hm : GoodL (l ++ r)) (g : List Block.D) : ∀ (n : Nat) (i : Int), i.toNat = n → 0 ≤ i → i < l.length → valT (l ++ r) g i = valT l g i := by
  intro n
  induction n using Nat.strongRecOn with
  | _ n ih =>
    intro i hn h0 h1
    have h2 : i < (l ++ r).length := by rw [List.length_append]; omega
    rw [valT_eq hm g h0 h2, valT_eq hg g h0 h1, tAt_prefix h0 h1]
    refine plainW_congr (kinds hg h0 h1) (fun p hp => ?_) g
    have hpl := parts_lt hg h0 h1 p hp
    exact ih p.toNat (by omega) p rfl hpl.1 (by omega)

/-! ### the map that is filled -/
theorem vOf_put (k x : Int) (v : Value.D) : ∀ (es : Vs), vOf (mput (kt := I) (vt := Value) k v es) x = if x = k then v else vOf es x := by
  have step : ∀ (e : I.D × Value.D) (es : Vs), vOf (e :: es) x = if x = e.1 then e.2 else vOf es x := by
    intro e es
    unfold vOf mgetD
    rw [mget]
    by_cases h : x = e.1
    · rw [(eqI_iff x e.1).2 h, if_pos h]; rfl
    · have : eqD I x e.1 = false := by
        cases hq : eqD I x e.1 with
        | false => rfl
        | true => exact absurd ((eqI_iff x e.1).1 hq) h
      rw [this, if_neg h]; rfl
  intro es
  induction es with
  | nil =>
    show vOf ((k, v) :: []) x = _
    rw [step]
  | cons e es ih =>
    rw [mput]
    cases hy : eqD I k e.1 with
    | true =>
      have hy := (eqI_iff k e.1).1 hy
      rw [cond_true, step, step]
      simp only
      by_cases h : x = k
      · rw [if_pos h, if_pos h]
      · rw [if_neg h, if_neg h, if_neg (hy ▸ h)]
    | false =>
      rw [cond_false, step, step, ih]
      have hne : ¬ k = e.1 := fun q => by rw [(eqI_iff k e.1).2 q] at hy; cases hy
      by_cases h : x = e.1
      · rw [if_pos h, if_pos h, if_neg (fun q => hne (q.symm.trans h))]
      · rw [if_neg h, if_neg h]
theorem evF_spec {l : List Term.D} (hg : GoodL l) (g : List Block.D) : ∀ (ks : List Int) (es : Vs), (∀ k ∈ ks, 0 ≤ k ∧ k < (l.length : Int)) → ks.Pairwise (· < ·) →
    (∀ k ∈ ks, ∀ p ∈ partsL (tAt l k), p ∈ ks ∨ vOf es p = valT l g p) → ∀ x, (x ∈ ks ∨ vOf es x = valT l g x) → vOf (evF l g ks es) x = valT l g x := by
  intro ks
  induction ks with
  | nil => intro es _ _ _ x hx; exact hx.resolve_left (by simp)
  | cons k ks ih =>
    intro es hr hs hp x hx
    simp only [evF]
    have hk := hr k (by simp)
    have hs' := List.pairwise_cons.1 hs
    have hval : plainT es (tAt l k) g = valT l g k := by
      rw [plainT_eq, valT_eq hg g hk.1 hk.2]
      refine plainW_congr (kinds hg hk.1 hk.2) (fun p hpp => ?_) g
      rcases hp k (by simp) p hpp with h | h
      · have h5 := parts_lt hg hk.1 hk.2 p hpp
        rcases List.mem_cons.1 h with rfl | h
        · omega
        · have := hs'.1 p h; omega
      · exact h
    have up : ∀ y, vOf es y = valT l g y → vOf (mput (kt := I) (vt := Value) k (plainT es (tAt l k) g) es) y = valT l g y := by
      intro y hy
      rw [vOf_put, hval]
      by_cases h : y = k
      · rw [if_pos h, h]
      · rw [if_neg h, hy]
    have self : vOf (mput (kt := I) (vt := Value) k (plainT es (tAt l k) g) es) k = valT l g k := by rw [vOf_put, if_pos rfl, hval]
    refine ih _ (fun y hy => hr y (by simp [hy])) hs'.2 (fun y hy p hpp => ?_) x ?_
    · rcases hp y (by simp [hy]) p hpp with h | h
      · rcases List.mem_cons.1 h with rfl | h
        · exact .inr self
        · exact .inl h
      · exact .inr (up p h)
    · rcases hx with hx | hx
      · rcases List.mem_cons.1 hx with rfl | hx
        · exact .inr self
        · exact .inl hx
      · exact .inr (up x hx)

/-! ### what comes of a term -/
/-- Nothing sealed is in it, but it itself; all atoms are there. -/
def Clear (l : List Term.D) (i : Int) (g : List Block.D) : Prop := ∀ k, Reach l i k → ((tAt l k).1 = 5 → k = i) ∧ ((tAt l k).1 = 1 → (tAt l k).2.1 < (g.length : Int))
theorem within_anyC {l : List Term.D} {i : Int} (ht : thereI l i = 0) (p : Int → Bool) : (withinI l i).1.any p = true ↔ ∃ k, Reach l i k ∧ p k = true := by
  obtain ⟨_, w2, _, _⟩ := within_mem ht
  rw [List.any_eq_true]
  exact ⟨fun ⟨k, h1, h2⟩ => ⟨k, (w2 k).1 h1, h2⟩, fun ⟨k, h1, h2⟩ => ⟨k, (w2 k).2 h1, h2⟩⟩
theorem eval_cases {l : List Term.D} {i : Int} (g : List Block.D) (ht : thereI l i = 0) :
    (Clear l i g ∧ evalI l i g = (valT l g i, 0)) ∨ (¬ Clear l i g ∧ evalI l i g = (zeroV, bif (withinI l i).1.any (q80 l i).2 then 1 else 4)) := by
  obtain ⟨w1, w2, w3, w4⟩ := within_mem ht
  obtain ⟨hg, ha, hi, _⟩ := within_ok ht
  unfold evalI
  rw [w1]
  cases h80 : (withinI l i).1.any (q80 l i).2 with
  | true =>
    refine .inr ⟨fun hc => ?_, rfl⟩
    obtain ⟨k, k1, k2⟩ := (within_anyC ht _).1 h80
    unfold q80 at k2
    simp only at k2
    cases h5 : (tAt l k).1 == 5 with
    | false => rw [h5] at k2; cases k2
    | true =>
      rw [h5] at k2
      have := (hc k k1).1 (eq_of_beq h5)
      simp [this] at k2
  | false =>
    cases h81 : (withinI l i).1.any (q81 l g).2 with
    | true =>
      refine .inr ⟨fun hc => ?_, rfl⟩
      obtain ⟨k, k1, k2⟩ := (within_anyC ht _).1 h81
      unfold q81 at k2
      simp only at k2
      cases h5 : (tAt l k).1 == 1 with
      | false => rw [h5] at k2; cases k2
      | true =>
        rw [h5] at k2
        have h7 := (hc k k1).2 (eq_of_beq h5)
        simp only [cond_true, decide_eq_true_eq] at k2
        exact Int.not_lt.2 k2 h7
    | false =>
      refine .inl ⟨fun k hk => ⟨fun h5 => ?_, fun h1 => ?_⟩, ?_⟩
      · apply Classical.byContradiction
        intro hne
        have : (withinI l i).1.any (q80 l i).2 = true := (within_anyC ht _).2 ⟨k, hk, by unfold q80; simp [h5, hne]⟩
        rw [h80] at this; cases this
      · apply Classical.byContradiction
        intro hne
        have : (withinI l i).1.any (q81 l g).2 = true := (within_anyC ht _).2 ⟨k, hk, by unfold q81; simp only [h1]; exact decide_eq_true (Int.not_lt.1 hne)⟩
        rw [h81] at this; cases this
      · show (vOf (evF l g (withinI l i).1 []) i, (0 : Int)) = _
        rw [evF_spec hg g _ [] (fun k hk => by have := w4 k hk; omega) w3 (fun k hk p hp => .inl ((w2 p).2 (.part ((w2 k).1 hk) hp))) i (.inl ((w2 i).2 .self))]
theorem eval_none {l : List Term.D} {i : Int} {g : List Block.D} (ht : thereI l i ≠ 0) : evalI l i g = (zeroV, thereI l i) := by
  rcases thereI_or (l := l) (i := i) with h | ⟨h1, h2⟩
  · exact absurd h ht
  · unfold evalI
    rw [h1, show ((([] : List Int), thereI l i).2 != 0) = true by simpa using h2]; rfl
theorem eval_ok {l : List Term.D} {i : Int} {g : List Block.D} (h : (evalI l i g).2 = 0) : thereI l i = 0 ∧ Clear l i g ∧ evalI l i g = (valT l g i, 0) := by
  rcases Classical.em (thereI l i = 0) with ht | ht
  · rcases eval_cases g ht with ⟨h1, h2⟩ | ⟨_, h2⟩
    · exact ⟨ht, h1, h2⟩
    · rw [h2] at h
      cases hq : (withinI l i).1.any (q80 l i).2 <;> rw [hq] at h <;> exact absurd h (by decide)
  · rw [eval_none ht] at h
    exact absurd h ht
theorem eval_clear {l : List Term.D} {i : Int} {g : List Block.D} (ht : thereI l i = 0) (hc : Clear l i g) : evalI l i g = (valT l g i, 0) := by
  rcases eval_cases g ht with ⟨_, h2⟩ | ⟨h1, _⟩
  · exact h2
  · exact absurd hc h1
/-! ### what is reached -/
theorem reach_head {l : List Term.D} {j : Int} : ∀ {k : Int}, Reach l j k → k = j ∨ ∃ p ∈ partsL (tAt l j), Reach l p k := by
  intro k h
  induction h with
  | self => exact .inl rfl
  | @part x y _ hy ih =>
    rcases ih with rfl | ⟨p, hp, hr⟩
    · exact .inr ⟨y, hy, .self⟩
    · exact .inr ⟨p, hp, .part hr hy⟩
theorem reach_cons {l : List Term.D} {j p : Int} (hp : p ∈ partsL (tAt l j)) : ∀ {k : Int}, Reach l p k → Reach l j k := by
  intro k h
  induction h with
  | self => exact .part .self hp
  | part _ hy ih => exact .part ih hy
theorem reach_rng {l : List Term.D} (hg : GoodL l) {i : Int} (h0 : 0 ≤ i) (h1 : i < l.length) : ∀ {k : Int}, Reach l i k → 0 ≤ k ∧ k ≤ i := by
  intro k h
  induction h with
  | self => exact ⟨h0, Int.le_refl _⟩
  | @part x y _ hy ih => have := parts_lt hg ih.1 (by omega) y hy; omega
theorem reach_prefix {l r : List Term.D} (hg : GoodL l) {i : Int} (h0 : 0 ≤ i) (h1 : i < l.length) : ∀ {k : Int}, Reach (l ++ r) i k → Reach l i k := by
  intro k h
  induction h with
  | self => exact .self
  | @part x y _ hy ih =>
    have hr := reach_rng hg h0 h1 ih
    rw [tAt_prefix hr.1 (by omega)] at hy
    exact .part ih hy
theorem there_iff {l : List Term.D} {i : Int} : thereI l i = 0 ↔ GoodL l ∧ 0 ≤ i ∧ i < l.length := by
  refine ⟨fun h => ?_, fun ⟨h1, h2, h3⟩ => ?_⟩
  · obtain ⟨hg, ha, hi, _⟩ := within_ok h
    exact ⟨hg, ha, hi⟩
  · unfold thereI
    rw [decide_eq_false (show ¬ i < 0 by omega), decide_eq_false (show ¬ i ≥ (l.length : Int) by omega)]
    exact checkL_iff.2 h1
theorem partB_wf (b : Block.D) (i : Int) : WF Block (partB b i) := ⟨xorU_has' _ _, xorU_has' _ _⟩
where
  xorU_has' (a b : Int) : IntKind.u64.has (xorU a b) := wrap_has _ _
theorem partR_wf (b : Block.D) (i : Int) : WF Block (partR b i).1 := by
  unfold partR
  cases bif decide (i < 0) then true else decide (i > 4) with
  | true => exact (⟨u0_has, u0_has⟩ : WF Block ((0, 0) : Int × Int))
  | false => exact partB_wf b i
theorem valT_kind {l : List Term.D} (hg : GoodL l) {g : List Block.D} (hw : ∀ b ∈ g, WF Block b) {i : Int} (h0 : 0 ≤ i) (h1 : i < l.length) (hk : (tAt l i).1 ≠ 5) : valT l g i = octV (valT l g i).2.2.1 ∧ WF Block (valT l g i).2.2.1 := by
  rw [valT_eq hg g h0 h1]
  unfold plainW
  cases h1 : (tAt l i).1 == 1 with
  | true =>
    refine ⟨rfl, ?_⟩
    show WF Block (bAt g (tAt l i).2.1)
    unfold bAt
    rw [List.getD_eq_getElem?_getD]
    cases hq : g[(tAt l i).2.1.toNat]? with
    | none => exact (⟨u0_has, u0_has⟩ : WF Block ((0, 0) : Int × Int))
    | some b => exact hw b (List.mem_of_getElem? hq)
  | false =>
    rw [show ((tAt l i).1 == 5) = false by simpa using hk]
    exact ⟨rfl, partR_wf _ _⟩
end Go.AM.Seat
