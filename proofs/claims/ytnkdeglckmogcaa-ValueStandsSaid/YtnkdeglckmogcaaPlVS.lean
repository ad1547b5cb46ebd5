/- The law ValueStands: that it answers true. -/
import Derived.Test.YtnkdeglckmogcaaSeVS
import Derived.Test.YtnkdeglckmogcaaPlEv
import Derived.Test.YtnkdeglckmogcaaPlValue
set_option linter.unusedVariables false
set_option linter.unusedSimpArgs false
set_option maxRecDepth 100000
namespace Go.AM.Seat
open Go Go.AM Go.Proofs

theorem good_nil : GoodL [] := ⟨by decide, fun j t h => by simp at h⟩
theorem clear_made {l r : List Term.D} {g : List Block.D} {j : Nat} {t : Term.D} (hg : GoodL l) (hm : GoodL (l ++ r)) (hj : (l ++ r)[j]? = some t) (h1 : t.1 ≠ 1)
    (hp : ∀ q ∈ partsL t, 0 ≤ q ∧ q < (l.length : Int) ∧ Clear l q g ∧ (tAt l q).1 ≠ 5) : Clear (l ++ r) j g := by
  intro k hk
  rcases reach_head hk with rfl | ⟨q, hq, hr⟩
  · rw [tAt_get hj]
    exact ⟨fun _ => rfl, fun h => absurd h h1⟩
  · rw [tAt_get hj] at hq
    obtain ⟨q0, q1, qc, q5⟩ := hp q hq
    have hr' := reach_prefix hg q0 q1 hr
    have hrg := reach_rng hg q0 q1 hr'
    rw [tAt_prefix hrg.1 (by omega)]
    obtain ⟨c5, c1⟩ := qc k hr'
    exact ⟨fun h => absurd (c5 h ▸ h) q5, c1⟩
theorem part_sym {l : List Term.D} {i p : Int} (h : (partV l (symV i) p).2.2 = 0) : 0 ≤ p ∧ p ≤ 2 ∧ GoodL l ∧ 0 ≤ i ∧ i < l.length ∧ (tAt l i).1 ≠ 5 ∧
    ∃ (j : Nat) (r : List Term.D), partV l (symV i) p = (symV j, l ++ r, 0) ∧ GoodL (l ++ r) ∧ (l ++ r)[j]? = some (2 + p, i, 0) := by
  cases hb : partBad l (symV i) p with
  | true => rw [partV] at h; rw [hb] at h; cases h
  | false =>
    obtain ⟨c, o, p0, p2⟩ := partBad_false.1 hb
    obtain ⟨_, s0, s1⟩ := plain_sym c rfl
    have e : partV l (symV i) p = madeV l (2 + p, i, 0) := by
      unfold partV
      rw [hb]
      show madeV l (IntKind.i64.wrap (2 + p), i, 0) = _
      rw [wrap64 (by omega) (by omega)]
    rw [e] at h ⊢
    obtain ⟨j, r, m1, m2, m3, m4, _⟩ := madeV_ok h
    refine ⟨p0, p2, m2, s0, s1, ?_, j, r, m1, m3, m4⟩
    rw [ownV_sym] at o
    simpa using o
theorem part_oct {b : Block.D} {p : Int} (h0 : 0 ≤ p) (h2 : p ≤ 2) : partV [] (octV b) p = (octV (partR b p).1, [], 0) := by
  have hb : partBad [] (octV b) p = false := partBad_false.2 ⟨check_oct good_nil b, rfl, h0, h2⟩
  unfold partV
  rw [hb]
  show (octV (partR b p).1, ([] : List Term.D), (partR b p).2) = _
  unfold partR
  rw [decide_eq_false (show ¬ p < 0 by omega), decide_eq_false (show ¬ p > 4 by omega)]; rfl
theorem wrap_oct (a b : Block.D) : wrapV [] (octV a) (octV b) = (sealV (wrapB a b), [], 0) := by
  have hz : isV [] [false, false] [octV a, octV b] = 0 := isV_two.2 ⟨check_oct good_nil _, check_oct good_nil _, rfl, rfl, rfl⟩
  unfold wrapV
  rw [hz]; rfl
theorem unwrap_oct {a b : Block.D} (hb : WF Block b) : unwrapV [] (octV a) (sealV (wrapB a b)) = (octV b, 0) := by
  have hz : isV [] [false, true] [octV a, sealV (wrapB a b)] = 0 := isV_two.2 ⟨check_oct good_nil _, check_seal good_nil _, rfl, rfl, rfl⟩
  unfold unwrapV
  rw [hz]
  show (octV (unwrapR a (wrapB a b)).1, (unwrapR a (wrapB a b)).2) = _
  rw [unwrap_wrap hb]
theorem unwrap_sym {l : List Term.D} {i k : Int} (hg : GoodL l) (hi : 0 ≤ i) (hi' : i < l.length) (hk : 0 ≤ k) (hk' : k < l.length) (h5 : (tAt l i).1 ≠ 5) (k5 : (tAt l k).1 = 5) (hA : (tAt l k).2.1 = i) :
    unwrapV l (symV i) (symV k) = (symV (tAt l k).2.2, 0) := by
  have hz : isV l [false, true] [symV i, symV k] = 0 := isV_two.2 ⟨check_sym hg hi hi', check_sym hg hk hk', by rw [ownV_sym]; simpa using h5, by rw [ownV_sym]; simpa using k5, rfl⟩
  unfold unwrapV
  rw [hz]
  show (bif (tAt l k).2.1 != i then (zeroV, 7) else (symV (tAt l k).2.2, 0)) = _
  rw [hA]; simp
theorem unwrap_sym_ok {l : List Term.D} {i k : Int} (h : (unwrapV l (symV i) (symV k)).2 = 0) : GoodL l ∧ 0 ≤ i ∧ i < l.length ∧ 0 ≤ k ∧ k < l.length ∧ (tAt l i).1 ≠ 5 ∧ (tAt l k).1 = 5 ∧ (tAt l k).2.1 = i := by
  cases hz : isV l [false, true] [symV i, symV k] != 0 with
  | true =>
    have hz' : isV l [false, true] [symV i, symV k] ≠ 0 := by simpa using hz
    unfold unwrapV at h
    rw [hz] at h
    exact absurd h hz'
  | false =>
    have hz' : isV l [false, true] [symV i, symV k] = 0 := by simpa using hz
    obtain ⟨c1, c2, o1, o2, _⟩ := isV_two.1 hz'
    obtain ⟨_, s0, s1⟩ := plain_sym c1 rfl
    obtain ⟨_, t0, t1⟩ := plain_sym c2 rfl
    refine ⟨checkL_iff.1 (checkV_zero.1 c1).1, s0, s1, t0, t1, by rw [ownV_sym] at o1; simpa using o1, by rw [ownV_sym] at o2; simpa using o2, ?_⟩
    unfold unwrapV at h
    rw [hz] at h
    have h : (bif (tAt l k).2.1 != i then (zeroV, (7 : Int)) else (symV (tAt l k).2.2, 0)).2 = 0 := h
    cases hq : (tAt l k).2.1 != i with
    | true => rw [hq] at h; cases h
    | false => simpa using hq
theorem there_made {l : List Term.D} {j : Nat} {t : Term.D} (hm : GoodL l) (hj : l[j]? = some t) : thereI l j = 0 :=
  there_iff.2 ⟨hm, by omega, by have := (List.getElem?_eq_some_iff.1 hj).1; omega⟩
theorem stands_true {l : List Term.D} {i k p : Int} {g : List Block.D} (hw : ∀ b ∈ g, WF Block b) : run Γ14v noL [] F14 (encA [.v (.sl Term), .v I, .v I, .v I, .v (.sl Block)] (l, i, k, p, g)) [] = B true := by
  rw [r14v]
  cases bif decide ((l.length : Int) > 60) then true else decide ((g.length : Int) > 300) with
  | true => rfl
  | false =>
  simp only [cond_false]
  cases he : bif (evalI l i g).2 != 0 then true else (evalI l k g).2 != 0 with
  | true => rfl
  | false =>
  simp only [cond_false]
  have he1 : (evalI l i g).2 = 0 := by
    cases h : (evalI l i g).2 != 0 with
    | true => rw [h] at he; cases he
    | false => simpa using h
  have he2 : (evalI l k g).2 = 0 := by
    rw [he1] at he
    simpa using he
  obtain ⟨ti, ci, ei⟩ := eval_ok he1
  obtain ⟨tk, ck, ek⟩ := eval_ok he2
  obtain ⟨hg, i0, i1⟩ := there_iff.1 ti
  obtain ⟨_, k0, k1⟩ := there_iff.1 tk
  have xi : evX l i g = valT l g i := by unfold evX; rw [ei]
  have xk : evX l k g = valT l g k := by unfold evX; rw [ek]
  have b1 : (partV l (symV i) p).2.2 = 0 → bad1V l i p g = false := by
    intro h
    obtain ⟨p0, p2, _, _, _, i5, j, r, m1, m2, m3⟩ := part_sym h
    have hcl : Clear (l ++ r) j g := clear_made hg m2 m3 (show (2 + p : Int) ≠ 1 by omega) fun q hq => by
      rw [parts_of, if_pos (show (2 + p : Int) = 2 ∨ (2 + p : Int) = 3 ∨ (2 + p : Int) = 4 by omega)] at hq
      obtain rfl := List.mem_singleton.1 hq
      exact ⟨i0, i1, ci, i5⟩
    have hev := eval_clear (there_made m2 m3) hcl
    have hjl := (List.getElem?_eq_some_iff.1 m3).1
    have hv : valT (l ++ r) g j = octV (partR (valT l g i).2.2.1 p).1 := by
      rw [valT_eq m2 g (by omega) (by omega), tAt_get m3]
      unfold plainW
      simp only
      rw [beq_false_of_ne (show (2 + p : Int) ≠ 1 by omega), beq_false_of_ne (show (2 + p : Int) ≠ 5 by omega), wrap64 (by omega) (by omega), show (2 + p - 2 : Int) = p by omega, valT_prefix hg m2 g _ i rfl i0 i1]
      rfl
    unfold bad1V
    rw [m1]
    show (bif bif (evalI (l ++ r) j g).2 != 0 then true else (partV [] (evX l i g) p).2.2 != 0 then true else !valEq (partV [] (evX l i g) p).1 (evalI (l ++ r) j g).1) = false
    rw [hev, xi, (valT_kind hg hw i0 i1 i5).1, part_oct p0 p2, hv]
    simp only [valEq_iff.2 rfl]
    rfl
  have b3 : end3V l i k g = B true := by
    unfold end3V
    cases h : (unwrapV l (symV i) (symV k)).2 == 0 with
    | false => rfl
    | true =>
      obtain ⟨_, _, _, _, _, i5, k5, hA⟩ := unwrap_sym_ok (eq_of_beq h)
      have hu := unwrap_sym hg i0 i1 k0 k1 i5 k5 hA
      have hpt : partsL (tAt l k) = [(tAt l k).2.1, (tAt l k).2.2] := by rw [parts_of, if_neg (by rw [k5]; decide), if_pos k5]
      have hq := parts_lt hg k0 k1 (tAt l k).2.2 (by rw [hpt]; simp)
      have hkq : ∀ m, Reach l (tAt l k).2.2 m → Reach l k m := fun m hm => reach_cons (by rw [hpt]; simp) hm
      have q0 : 0 ≤ (tAt l k).2.2 := hq.1
      have q1 : (tAt l k).2.2 < (l.length : Int) := Int.lt_trans hq.2 k1
      have q5 : (tAt l (tAt l k).2.2).1 ≠ 5 := fun h5 => absurd ((ck _ (hkq _ .self)).1 h5) (Int.ne_of_lt hq.2)
      have cq : Clear l (tAt l k).2.2 g := fun m hm => ⟨fun h5 => by
        have e1 := (ck m (hkq m hm)).1 h5
        have e2 := (reach_rng hg q0 q1 hm).2
        rw [e1] at e2
        exact absurd hq.2 (Int.not_lt.2 e2), (ck m (hkq m hm)).2⟩
      have hev := eval_clear (there_iff.2 ⟨hg, q0, q1⟩) cq
      obtain ⟨vq, wq⟩ := valT_kind hg hw q0 q1 q5
      have hv : valT l g k = sealV (wrapB (valT l g i).2.2.1 (valT l g (tAt l k).2.2).2.2.1) := by
        rw [valT_eq hg g k0 k1]
        unfold plainW
        rw [k5, hA]; rfl
      have hb : bad3V l i k g = false := by
        unfold bad3V
        rw [hu]
        show (bif bif (evalI l (tAt l k).2.2 g).2 != 0 then true else (unwrapV [] (evX l i g) (evX l k g)).2 != 0 then true else !valEq (unwrapV [] (evX l i g) (evX l k g)).1 (evalI l (tAt l k).2.2 g).1) = false
        rw [hev, xi, xk, hv, (valT_kind hg hw i0 i1 i5).1]
        show (bif bif (0 : Int) != 0 then true else (unwrapV [] (octV (valT l g i).2.2.1) (sealV (wrapB (valT l g i).2.2.1 (valT l g (tAt l k).2.2).2.2.1))).2 != 0 then true else !valEq (unwrapV [] (octV (valT l g i).2.2.1) (sealV (wrapB (valT l g i).2.2.1 (valT l g (tAt l k).2.2).2.2.1))).1 (valT l g (tAt l k).2.2)) = false
        rw [unwrap_oct wq, ← vq]
        simp only [valEq_iff.2 rfl]
        rfl
      rw [hb]; rfl
  have b2 : end2V l i k g = B true := by
    unfold end2V
    cases h : (wrV l i k).2.2 == 0 with
    | false => exact b3
    | true =>
      have h' : (wrapV l (symV i) (symV k)).2.2 = 0 := eq_of_beq h
      obtain ⟨_, _, o1, o2, _, _, hc⟩ := wrapV_ok h'
      have i5 : (tAt l i).1 ≠ 5 := by rw [ownV_sym] at o1; simpa using o1
      have k5 : (tAt l k).1 ≠ 5 := by rw [ownV_sym] at o2; simpa using o2
      rcases hc with ⟨hc, _⟩ | ⟨_, _, _, _, _, _, _, j, r, m1, m2, m3⟩
      · cases hc
      · have m3 : (l ++ r)[j]? = some (5, i, k) := m3
        have hcl : Clear (l ++ r) j g := clear_made hg m2 m3 (show (5 : Int) ≠ 1 by decide) fun q hq => by
          rw [parts_of, if_neg (show ¬ ((5 : Int) = 2 ∨ (5 : Int) = 3 ∨ (5 : Int) = 4) by decide), if_pos rfl] at hq
          rcases List.mem_cons.1 hq with rfl | hq
          · exact ⟨i0, i1, ci, i5⟩
          · obtain rfl := List.mem_singleton.1 hq
            exact ⟨k0, k1, ck, k5⟩
        have hev := eval_clear (there_made m2 m3) hcl
        have hjl := (List.getElem?_eq_some_iff.1 m3).1
        obtain ⟨vi, _⟩ := valT_kind hg hw i0 i1 i5
        obtain ⟨vk, wk⟩ := valT_kind hg hw k0 k1 k5
        have hv : valT (l ++ r) g j = sealV (wrapB (valT l g i).2.2.1 (valT l g k).2.2.1) := by
          rw [valT_eq m2 g (by omega) (by omega), tAt_get m3]
          unfold plainW
          show sealV (wrapB (valT (l ++ r) g i).2.2.1 (valT (l ++ r) g k).2.2.1) = _
          rw [valT_prefix hg m2 g _ i rfl i0 i1, valT_prefix hg m2 g _ k rfl k0 k1]
        have hll : (l.length : Int) ≤ (l ++ r).length := by rw [List.length_append]; omega
        have hun := unwrap_sym m2 i0 (Int.lt_of_lt_of_le i1 hll) (show (0 : Int) ≤ j by omega) (show (j : Int) < (l ++ r).length by omega) (by rw [tAt_prefix i0 i1]; exact i5) (by rw [tAt_get m3]) (by rw [tAt_get m3])
        rw [tAt_get m3] at hun
        have hiw : isW l i k g = (sealV (wrapB (valT l g i).2.2.1 (valT l g k).2.2.1), [], 0) := by
          unfold isW
          rw [xi, xk, vi, vk]; exact wrap_oct _ _
        have hub : unwrapV [] (evX l i g) (isW l i k g).1 = (valT l g k, 0) := by
          rw [hiw, xi, vi]
          refine (unwrap_oct wk).trans ?_
          rw [← vk]
        have hb : bad2V l i k g = false := by
          unfold bad2V
          rw [hub, hiw, show wrV l i k = (symV j, l ++ r, 0) from m1]
          show (bif bif bif bif bif bif (evalI (l ++ r) j g).2 != 0 then true else (0 : Int) != 0 then true else (unwrapV (l ++ r) (symV i) (symV j)).2 != 0 then true else (0 : Int) != 0 then true else
            !valEq (sealV (wrapB (valT l g i).2.2.1 (valT l g k).2.2.1)) (evalI (l ++ r) j g).1 then true else !valEq (unwrapV (l ++ r) (symV i) (symV j)).1 (symV k) then true else !valEq (valT l g k) (evX l k g)) = false
          rw [hev, hv, hun, xk]
          simp only [valEq_iff.2 rfl]
          rfl
        rw [hb]; exact b3
  cases h : (partV l (symV i) p).2.2 == 0 with
  | false => exact b2
  | true => rw [b1 (eq_of_beq h)]; exact b2
theorem good14v (x : ADen [.v (.sl Term), .v I, .v I, .v I, .v (.sl Block)]) : Good Try.prog N14 (encA [.v (.sl Term), .v I, .v I, .v I, .v (.sl Block)] x) (.one (.bool true)) := by
  have g : GoodS Try.prog N14 (.fn [.v (.sl Term), .v I, .v I, .v I, .v (.sl Block)] fun _ => (true, .one (.bool true))) := by
    refine good (.cons g16 (.cons g42 (.cons g22 (.cons g17 (.cons g18 (.nil _)))))) H14 rfl (by kernel_rfl) noL [] (noLoops (by kernel_rfl)) [.v (.sl Term), .v I, .v I, .v I, .v (.sl Block)] (by decide) [] _ fun x r hw h => ?_
    obtain ⟨l, i, k, p, g⟩ := x
    cases h
    exact stands_true hw.2.2.2.2.2
  exact g.2.1 _ _ (by kernel_rfl)
end Go.AM.Seat
