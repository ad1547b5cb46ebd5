/- The law TermWithin: that it answers true. -/
import Derived.Test.YtnkdeglckmogcaaDoorSeTW
set_option linter.unusedVariables false
set_option linter.unusedSimpArgs false
set_option maxRecDepth 100000
namespace Go.AM.Seat
open Go Go.AM Go.Proofs

theorem memF_true (p : Int) : ∀ (w : List Int) (b : Bool), (b = true ∨ p ∈ w) → memF p w b = true := by
  intro w
  induction w with
  | nil => intro b h; rcases h with h | h; exact h; cases h
  | cons y w ih =>
    intro b h
    simp only [memF]
    refine ih _ ?_
    rcases h with h | h
    · left; rw [h]; rfl
    · rcases List.mem_cons.1 h with rfl | h
      · left; cases b <;> simp
      · exact .inr h
theorem mxF_spec (l : List Term.D) (a : Int) : ∀ (w : List Int) (m : Int), m ≤ mxF l a w m ∧ (∀ x ∈ w, x ≠ a → (deepI l x).1 ≤ mxF l a w m) ∧ (mxF l a w m = m ∨ ∃ x ∈ w, x ≠ a ∧ mxF l a w m = (deepI l x).1) := by
  intro w
  induction w with
  | nil => intro m; exact ⟨Int.le_refl _, (fun x hx => by cases hx), .inl rfl⟩
  | cons x w ih =>
    intro m
    simp only [mxF]
    obtain ⟨h1, h2, h3⟩ := ih (mx1 l a m x)
    have hm : m ≤ mx1 l a m x ∧ (x ≠ a → (deepI l x).1 ≤ mx1 l a m x) ∧ (mx1 l a m x = m ∨ (x ≠ a ∧ mx1 l a m x = (deepI l x).1)) := by
      unfold mx1
      cases hx : x != a with
      | true =>
        have hx : x ≠ a := by simpa using hx
        obtain ⟨m1, m2, m3⟩ := maxI_spec m (deepI l x).1
        exact ⟨m1, fun _ => m2, m3.imp id fun h => ⟨hx, h⟩⟩
      | false =>
        have hx : x = a := by simpa using hx
        exact ⟨Int.le_refl _, fun h => absurd hx h, .inl rfl⟩
    obtain ⟨m1, m2, m3⟩ := hm
    refine ⟨Int.le_trans m1 h1, fun y hy hya => ?_, ?_⟩
    · rcases List.mem_cons.1 hy with rfl | hy
      · exact Int.le_trans (m2 hya) h1
      · exact h2 y hy hya
    · rcases h3 with h3 | ⟨y, hy, hya, h3⟩
      · rcases m3 with m3 | ⟨hxa, m3⟩
        · left; rw [h3, m3]
        · right; exact ⟨x, by simp, hxa, by rw [h3, m3]⟩
      · right; exact ⟨y, by simp [hy], hya, h3⟩
theorem there_of {l : List Term.D} {a x : Int} (ht : thereI l a = 0) (h0 : 0 ≤ x) (h1 : x ≤ a) : thereI l x = 0 := by
  obtain ⟨hg, ha, hi, _⟩ := within_ok ht
  unfold thereI
  rw [decide_eq_false (show ¬ x < 0 by omega), decide_eq_false (show ¬ x ≥ (l.length : Int) by omega)]
  exact checkL_iff.2 hg
theorem deepI_of {l : List Term.D} {x : Int} (ht : thereI l x = 0) : deepI l x = (dep l x, 0) := by
  unfold deepI; rw [ht]; rfl
theorem reach_dep {l : List Term.D} {a : Int} (ht : thereI l a = 0) {x : Int} (h : Reach l a x) : (0 ≤ x ∧ x ≤ a) ∧ (x = a ∨ dep l x + 1 ≤ dep l a) := by
  obtain ⟨hg, ha, hi, _⟩ := within_ok ht
  induction h with
  | self => exact ⟨⟨ha, Int.le_refl _⟩, .inl rfl⟩
  | @part x y _ hy ih =>
    obtain ⟨⟨h0, h1⟩, h2⟩ := ih
    have h5 := parts_lt hg h0 (show x < (l.length : Int) by omega) y hy
    have h6 := (dep_spec hg h0 (show x < (l.length : Int) by omega)).2.1 y hy
    refine ⟨by omega, .inr ?_⟩
    rcases h2 with rfl | h2 <;> omega
theorem within_true (l : List Term.D) (a : Int) (hl : l.length ≤ 60) : (bif (withinI l a).2 != 0 then some (AV.one (.bool (bif (withinI l a).2 == (deepI l a).2 then ((withinI l a).1.length : Int) == 0 else false))) else
    bif inB (IntKind.i64.wrap (((withinI l a).1.length : Int) - 1)) (withinI l a).1.length || !boolBeq (bif (deepI l a).2 != 0 then true else ((withinI l a).1.length : Int) == 0) false then
      bif bif bif (deepI l a).2 != 0 then true else ((withinI l a).1.length : Int) == 0 then true else lastI (withinI l a).1 != a then some (.one (.bool false)) else
      bif lenI (withinI l a).1 && selfD (withinI l a).1 && okAll l (withinI l a).1 a (deepI l a).1 then
        some (.one (.bool ((deepI l a).1 == IntKind.i64.wrap (mxF l a (withinI l a).1 (-1) + 1)))) else none
    else none) = some (.one (.bool true)) := by
  rcases Classical.em (thereI l a = 0) with ht | ht
  · obtain ⟨w1, w2, w3, w4⟩ := within_mem ht
    obtain ⟨hg, ha, hi, _⟩ := within_ok ht
    have hmx := hg.1
    rw [deepI_of ht, w1]
    obtain ⟨W, hW⟩ : ∃ W, W = (withinI l a).1 := ⟨_, rfl⟩
    rw [← hW] at w2 w3 w4 ⊢
    have hda := dep_spec hg ha hi
    have hdl := dep_le hg a.toNat (by omega)
    rw [show ((a.toNat : Nat) : Int) = a by omega] at hdl
    have haW : a ∈ W := (w2 a).2 .self
    have hnd : W.Nodup := w3.imp fun h => by omega
    have hlen := nodup_len (a.toNat + 1) W hnd fun x hx => by have := w4 x hx; omega
    have hpos : 0 < W.length := List.length_pos_of_mem haW
    have hwr : IntKind.i64.wrap ((W.length : Int) - 1) = ((W.length - 1 : Nat) : Int) := by rw [wrap64 (by omega) (by omega)]; omega
    have hlast : lastI W = a := by
      unfold lastI
      rw [hwr, iA_nat (show W.length - 1 < W.length by omega)]
      obtain ⟨j, hj, e⟩ := List.getElem_of_mem haW
      have h1 := (w4 _ (List.getElem_mem (show W.length - 1 < W.length by omega))).2
      rcases Nat.lt_or_eq_of_le (show j ≤ W.length - 1 by omega) with h | h
      · have := List.pairwise_iff_getElem.1 w3 j (W.length - 1) hj (by omega) h
        omega
      · subst h; exact e
    have hall : okAll l W a (dep l a) = true := by
      refine List.all_eq_true.2 fun i hi' => ?_
      have hil := List.mem_range.1 hi'
      have hx : iA W (i : Int) = W[i] := iA_nat hil
      have hxm : W[i] ∈ W := List.getElem_mem hil
      have hrg := w4 _ hxm
      have htx := there_of ht hrg.1 hrg.2
      have hrd := reach_dep ht ((w2 _).1 hxm)
      unfold okI
      rw [hx]
      have o1 : gd1 W i = true := by
        unfold gd1
        rcases Nat.eq_zero_or_pos i with rfl | hp
        · rw [decide_eq_false (show ¬ ((0 : Nat) : Int) > 0 by omega)]; simp [boolBeq]
        · rw [wrap64 (by omega) (by omega), show (i : Int) - 1 = ((i - 1 : Nat) : Int) by omega, inB_lt (show i - 1 < W.length by omega)]; rfl
      have o2 : bad1 W a i = false := by
        unfold bad1
        rw [hx, decide_eq_false (show ¬ W[i] < 0 by omega), decide_eq_false (show ¬ W[i] > a by omega)]
        rcases Nat.eq_zero_or_pos i with rfl | hp
        · rw [decide_eq_false (show ¬ ((0 : Nat) : Int) > 0 by omega)]; rfl
        · have := List.pairwise_iff_getElem.1 w3 (i - 1) i (by omega) hil (by omega)
          rw [wrap64 (by omega) (by omega), show (i : Int) - 1 = ((i - 1 : Nat) : Int) by omega, iA_nat (show i - 1 < W.length by omega), decide_eq_true (show (i : Int) > 0 by omega), decide_eq_false (show ¬ W[i - 1] ≥ W[i] by omega)]; rfl
      have o3 : bad2 l W a (dep l a) i = false := by
        unfold bad2
        rw [hx, deepI_of htx]
        cases hxa : W[i] != a with
        | false => rfl
        | true =>
          have hne : W[i] ≠ a := by simpa using hxa
          have := hrd.2.resolve_left hne
          rw [decide_eq_false (show ¬ (dep l W[i], (0 : Int)).1 ≥ dep l a by simp only; omega)]; rfl
      have o4 : inB W[i] l.length = true := by unfold inB; rw [decide_eq_true hrg.1, decide_eq_true (show W[i] < (l.length : Int) by omega)]; rfl
      have o5 : (partsL (tAt l W[i])).all (okP W W[i]) = true := by
        refine List.all_eq_true.2 fun p hp => ?_
        have h5 := parts_lt hg hrg.1 (show W[i] < (l.length : Int) by omega) p hp
        have hpW : p ∈ W := (w2 p).2 (.part ((w2 _).1 hxm) hp)
        unfold okP
        rw [memF_true p W false (.inr hpW), decide_eq_false (show ¬ p ≥ W[i] by omega)]; rfl
      rw [o1, o2, o3, o4, o5]; rfl
    have hmf : mxF l a W (-1) + 1 = dep l a := by
      obtain ⟨h1, h2, h3⟩ := mxF_spec l a W (-1)
      have hub : mxF l a W (-1) + 1 ≤ dep l a := by
        rcases h3 with h3 | ⟨x, hx, hxa, h3⟩
        · have := hda.1; omega
        · have hrg := w4 x hx
          rw [deepI_of (there_of ht hrg.1 hrg.2)] at h3
          have := (reach_dep ht ((w2 x).1 hx)).2.resolve_left hxa
          simp only at h3; omega
      rcases hda.2.2 with h | ⟨y, hy, h⟩
      · omega
      · have h5 := parts_lt hg ha hi y hy
        have hyW : y ∈ W := (w2 y).2 (.part .self hy)
        have := h2 y hyW (by omega)
        rw [deepI_of (there_of ht h5.1 (by omega))] at this
        simp only at this
        omega
    have hne : ((W.length : Int) == 0) = false := by
      cases hz : ((W.length : Int) == 0) with
      | false => rfl
      | true => have := eq_of_beq hz; omega
    rw [hwr, inB_lt (show W.length - 1 < W.length by omega), hlast, hne, len_lenI (l := W) (by omega), selfD_true, hall, hmf, wrap64 (n := dep l a) (by have := hda.1; omega) (by omega)]
    simp
  · have e1 : withinI l a = ([], thereI l a) := by unfold withinI; rw [show (thereI l a != 0) = true by simpa using ht]; rfl
    have e2 : deepI l a = (0, thereI l a) := by unfold deepI; rw [show (thereI l a != 0) = true by simpa using ht]; rfl
    rw [e1, e2, show ((([] : List Int), thereI l a).2 != 0) = true by simpa using ht]
    simp
theorem good507 (x : ADen [.v (.sl Term), .v I]) : Good Tryd.prog N507 (encA [.v (.sl Term), .v I] x) (.one (.bool true)) := by
  obtain ⟨l, a⟩ := x
  refine goodRun Γ507ok H507 rfl Λ507 live507 loop507 _ (by show 2 ≤ _; decide) [] ((r507 l a).trans ?_)
  cases h1 : decide ((l.length : Int) > 60) with
  | true => rfl
  | false => exact within_true l a (by simp at h1; omega)
end Go.AM.Seat
