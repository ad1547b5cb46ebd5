/- The law LabelApart: that it answers true. -/
import Derived.Test.YtoeijiackpanoaaDoorPlApart
set_option linter.unusedVariables false
set_option linter.unusedSimpArgs false
set_option maxRecDepth 100000
namespace Go.AM.Seat
open Go Go.AM Go.Proofs

section
variable {sym : Bool} {b : Block.D} {t0 : Nat} {l : List Term.D} {m : Value.D}
theorem node_den {h n : Int} (hd : Den sym b t0 l [] m) (hl : l.length ≤ 60000) (hn : IntKind.u64.has n) (he : (nodeV l h m n).2.2 = 0) :
    ∃ v r, nodeV l h m n = (v, l ++ r, 0) ∧ r.length ≤ 32 ∧ Den sym b t0 (l ++ r) (pathI h 1 n).1.reverse v ∧ okN h.toNat n.toNat = true ∧ ((h.toNat : Nat) : Int) = h ∧ ((n.toNat : Nat) : Int) = n := by
  obtain ⟨n1, n2⟩ := noNode_start he
  obtain ⟨hk, hh, hn'⟩ := okN_chk hn n2
  have hr := root_path hk
  rw [hh, hn'] at hr
  have hlen : (pathI h 1 n).1.length ≤ 32 := by
    have := path_lenH h 1 n
    have := (okN_iff.1 hk).2.1
    omega
  obtain ⟨v, r, e1, e2, e3⟩ := hd.walk (pathI h 1 n).1 (path_02 h 1 n) (by omega)
  rw [List.append_nil] at e3
  have f1 := nodeV_run n1 n2 (by rw [hr] : (pathI h 1 n).2 = 0)
  rw [e1] at f1
  exact ⟨v, r, f1, by omega, e3, hk, hh, hn'⟩
theorem label_den {h : Int} {s : Subset.D} (hd : Den sym b t0 l [] m) (hl : l.length ≤ 60000) (h32 : h.toNat ≤ 32) (he : (labelV l h m s).2.2 = 0) :
    ∃ v r, labelV l h m s = (v, l ++ r, 0) ∧ r.length ≤ 66 ∧ Den sym b t0 (l ++ r) (labP h s).reverse v ∧ subE h s = 0 := by
  obtain ⟨a1, a2, a3⟩ := labelV_err hd he
  obtain ⟨v, r, e1, e2, e3⟩ := labelV_run hd (by omega) a1 a2 a3
  exact ⟨v, r, e1, by omega, e3, (noLab_start a1).2⟩
theorem key_den {h k : Int} {s : Subset.D} (hd : Den sym b t0 l [] m) (hl : l.length ≤ 60000) (h32 : h.toNat ≤ 32) (he : (keyV l h k m s).2.2 = 0) :
    ∃ v r, keyV l h k m s = (v, l ++ r, 0) ∧ r.length ≤ 66 ∧ Den sym b t0 (l ++ r) (keyP h k s).reverse v := by
  obtain ⟨a2, a3⟩ := keyV_err hd he
  obtain ⟨v, r, e1, e2, e3⟩ := keyV_run hd (by omega) (noKey_err he) a2 a3
  exact ⟨v, r, e1, by omega, e3⟩
end
theorem nxt_true {x : WS} {r : Option AV} (h : x.2.2 = 0 → r = oB true) : nxt x r = oB true := by
  unfold nxt
  cases hx : x.2.2 != 0 with
  | true => rfl
  | false => exact h (by simpa using hx)
theorem subEq_iff {a b : Subset.D} : subEq a b = true ↔ a = b := by
  unfold subEq
  rw [Bool.and_eq_true, beq_iff_eq, beq_iff_eq]
  exact ⟨fun h => Prod.ext h.1 h.2, fun h => by rw [h]; exact ⟨rfl, rfl⟩⟩
theorem same_way {v w : Value.D} {p q : List Int} {e : Bool} (h1 : valEq v w = decide (p.reverse = q.reverse)) (h2 : p = q ↔ e = true) : (valEq v w == e) = true := by
  rw [h1]
  have : decide (p.reverse = q.reverse) = e := bool_iff (by rw [decide_eq_true_iff, List.reverse_inj]; exact h2)
  rw [this]; exact beq_self_eq_true _
theorem apart_true {h k n : Int} {a c : Subset.D} (hn : 0 ≤ n ∧ n ≤ 1048576) (a1 : IntKind.u64.has a.1) (a2 : IntKind.u64.has a.2) (c1 : IntKind.u64.has c.1) (c2 : IntKind.u64.has c.2) :
    nxt (nodeV [(1, n, 0)] h (symV 0) a.1) (bif small24 (nodeV [(1, n, 0)] h (symV 0) a.1).2.1.length then
      apA h k (symV 0) a c (nodeV [(1, n, 0)] h (symV 0) a.1) (nodeV (nodeV [(1, n, 0)] h (symV 0) a.1).2.1 h (symV 0) c.1) else none) = oB true := by
  have hg : GoodL [(1, n, 0)] := by
    refine ⟨by simp, fun j t hj => ?_⟩
    cases j with
    | zero =>
      simp only [List.getElem?_cons_zero, Option.some.injEq] at hj
      subst hj
      refine ⟨?_, by simp⟩
      unfold mayB mayBad
      simp [hn.1, hn.2]
    | succ j => simp at hj
  have h0 : ∃ x : Term.D, ([(1, n, 0)] : List Term.D)[0]? = some x ∧ x.1 = 1 := ⟨_, rfl, rfl⟩
  have up : ∀ {l : List Term.D} (r : List Term.D), (∃ x : Term.D, l[0]? = some x ∧ x.1 = 1) → ∃ x : Term.D, (l ++ r)[0]? = some x ∧ x.1 = 1 := by
    rintro l r ⟨x, e1, e2⟩
    exact ⟨x, by rw [List.getElem?_append_left (List.getElem?_eq_some_iff.1 e1).1]; exact e1, e2⟩
  have hd : Den true (0, 0) 0 [(1, n, 0)] [] (symV 0) := ⟨hg, fun x hx => (by cases hx), 0, rfl, rfl, (1, n, 0), rfl, by show (1 : Int) ≠ 5; decide⟩
  refine nxt_true fun he => ?_
  obtain ⟨x, r1, x1, x2, x3, x4, x5, x6⟩ := node_den hd (by simp) a1 he
  have h32 : h.toNat ≤ 32 := (okN_iff.1 x4).2.1
  have hd1 : Den true (0, 0) 0 ([(1, n, 0)] ++ r1) [] (symV 0) := hd.mono x3.good
  have u1 := up r1 h0
  rw [x1, small_of (by simp; omega)]
  show apA h k (symV 0) a c (x, [(1, n, 0)] ++ r1, 0) (nodeV ([(1, n, 0)] ++ r1) h (symV 0) c.1) = oB true
  generalize hl1 : ([(1, n, 0)] ++ r1 : List Term.D) = l1 at *
  have len1 : l1.length ≤ 33 := by rw [← hl1]; simp; omega
  unfold apA
  refine nxt_true fun he => ?_
  obtain ⟨y, r2, y1, y2, y3, y4, y5, y6⟩ := node_den hd1 (by omega) c1 he
  have hd2 : Den true (0, 0) 0 (l1 ++ r2) [] (symV 0) := hd1.mono y3.good
  have u2 := up r2 u1
  have E1 := same_way (e := a.1 == c.1) (x3.apart u1 y3) (by
    rw [beq_iff_eq]
    constructor
    · intro e
      have := root_inj x4 y4 (by rw [x5, x6, y6]; exact e)
      exact x6.symm.trans ((congrArg Int.ofNat this).trans y6)
    · intro e; rw [e])
  rw [y1]
  simp only
  rw [E1, small_of (by rw [List.length_append]; omega)]
  generalize hl2 : (l1 ++ r2 : List Term.D) = l2 at *
  have len2 : l2.length ≤ 65 := by rw [← hl2, List.length_append]; omega
  simp only [Bool.not_true, cond_false, cond_true]
  refine nxt_true fun he => ?_
  obtain ⟨p, r3, p1, p2, p3, p4⟩ := label_den hd2 (by omega) h32 he
  have hd3 : Den true (0, 0) 0 (l2 ++ r3) [] (symV 0) := hd2.mono p3.good
  have u3 := up r3 u2
  rw [p1, small_of (by rw [List.length_append]; omega)]
  simp only [cond_true]
  generalize hl3 : (l2 ++ r3 : List Term.D) = l3 at *
  have len3 : l3.length ≤ 131 := by rw [← hl3, List.length_append]; omega
  unfold apB
  refine nxt_true fun he => ?_
  obtain ⟨q, r4, q1, q2, q3, q4⟩ := label_den hd3 (by omega) h32 he
  have hd4 : Den true (0, 0) 0 (l3 ++ r4) [] (symV 0) := hd3.mono q3.good
  have u4 := up r4 u3
  have E2 := same_way (e := subEq a c) (p3.apart u3 q3) (by
    rw [subEq_iff]
    exact ⟨fun e => labP_inj a1 a2 c1 c2 p4 q4 e, fun e => by rw [e]⟩)
  rw [q1]
  simp only
  rw [E2, small_of (by rw [List.length_append]; omega)]
  simp only [Bool.not_true, cond_false, cond_true]
  generalize hl4 : (l3 ++ r4 : List Term.D) = l4 at *
  have len4 : l4.length ≤ 197 := by rw [← hl4, List.length_append]; omega
  refine nxt_true fun he => ?_
  obtain ⟨s, r5, s1, s2, s3⟩ := key_den hd4 (by omega) h32 he
  have hd5 : Den true (0, 0) 0 (l4 ++ r5) [] (symV 0) := hd4.mono s3.good
  have u5 := up r5 u4
  rw [s1, small_of (by rw [List.length_append]; omega)]
  simp only [cond_true]
  generalize hl5 : (l4 ++ r5 : List Term.D) = l5 at *
  have len5 : l5.length ≤ 263 := by rw [← hl5, List.length_append]; omega
  unfold apC
  refine nxt_true fun he => ?_
  obtain ⟨t, r6, t1, t2, t3⟩ := key_den hd5 (by omega) h32 he
  have E3 := same_way (e := subEq a c) (s3.apart u5 t3) (by
    rw [subEq_iff]
    unfold keyP
    constructor
    · intro e
      exact labP_inj a1 a2 c1 c2 p4 q4 (List.append_cancel_right e)
    · intro e; rw [e])
  rw [t1]
  simp only
  rw [E3, checkL_iff.2 t3.good]; rfl
theorem good603 (x : ADen K5a) : Good Tryd.prog N603 (encA K5a x) (.one (.bool true)) := by
  have g : GoodS Tryd.prog N603 (.fn K5a fun _ => (true, .one (.bool true))) := by
    refine good Γ603ok H603 rfl (by kernel_rfl) noL [] (noLoops (by kernel_rfl)) K5a (by decide) [] _ fun x r hw e => ?_
    obtain ⟨h, k, n, a, c⟩ := x
    cases e
    refine (r603 h k n a c).trans ?_
    cases h1 : (bif decide (n < 0) then true else decide (n > 1048576)) with
    | true => rfl
    | false =>
      have hn : 0 ≤ n ∧ n ≤ 1048576 := by
        cases h2 : decide (n < 0) with
        | true => rw [h2] at h1; cases h1
        | false => rw [h2] at h1; simp at h1 h2; exact ⟨h2, h1⟩
      exact apart_true hn hw.2.2.2.1.1 hw.2.2.2.1.2 hw.2.2.2.2.1 hw.2.2.2.2.2
  exact g.2.1 _ _ (by kernel_rfl)
end Go.AM.Seat
