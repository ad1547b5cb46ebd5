/- The law LabelUp: its run, and that it answers true. -/
import Derived.Test.YtoeijiackpanoaaDoorPlLab
set_option linter.unusedVariables false
set_option linter.unusedSimpArgs false
set_option maxRecDepth 100000
namespace Go.AM.Seat
open Go Go.AM Go.Proofs

def Γ604 : Orc := orc [(N608, sLive), (N347, s347), (N346, s346), (N26, s26)]
theorem Γ604ok : OrcOk Tryd.prog Γ604 := .cons g608 (.cons g347 (.cons g346 (.cons g26 (.nil _))))
def upC (v w z : WS) : Bool := bif bif bif w.2.2 == 0 then z.2.2 == 0 else false then valEq z.1 v.1 else false then sameL z.2.1 v.2.1 else false
def upR (l : List Term.D) (h : Int) (m : Value.D) (s t : Subset.D) : Option AV :=
  bif small24 l.length then bif small24 (labelV l h m t).2.1.length then oB (upC (labelV l h m s) (labelV l h m t) (walkV (labelV l h m t).2.1 (labelV l h m t).1 [lowB s.2])) else none else none
def halfI (j : Int) : Int := Int.fdiv j (2 ^ min (Int.toNat 1) IntKind.u64.bits)
theorem r604 (l : List Term.D) (h : Int) (m : Value.D) (s : Subset.D) : run Γ604 noL [] F604 (encA L4 (l, h, m, s)) [] =
    bif decide ((l.length : Int) > 60) then oB true else
    bif small24 l.length then
      bif bif (labelV l h m s).2.2 != 0 then true else s.2 == 0 then oB (bif (labelV l h m s).2.2 == 0 then true else valEq (labelV l h m s).1 zeroV) else
      bif halfI s.2 == s.1 then upR l h m s (s.1, 0) else upR l h m s (s.1, halfI s.2)
    else none := by kernel_rfl
theorem up_true {l : List Term.D} {h : Int} {m : Value.D} {s : Subset.D} (hl : l.length ≤ 60) (h1 : IntKind.u64.has s.1) (h2 : IntKind.u64.has s.2) (he : (labelV l h m s).2.2 = 0) (hz : s.2 ≠ 0) : upR l h m s (upS s) = oB true := by
  have hn : noLab l h m s = false := by
    cases hn : noLab l h m s with
    | false => rfl
    | true => unfold labelV at he; rw [hn] at he; exact absurd (show (1 : Int) = 0 from he) (by decide)
  obtain ⟨n1, n2⟩ := noLab_start hn
  obtain ⟨sym, b, t0, hd⟩ := den_of n1
  obtain ⟨p0, p1, p2⟩ := path_root h1 h2 n2
  obtain ⟨u1, u2, u3, u4⟩ := labP_up h1 h2 n2 hz
  have hu1 : IntKind.u64.has (upS s).1 := by
    have : (upS s).1 = s.1 := by unfold upS; cases Int.fdiv s.2 (2 ^ min (Int.toNat 1) IntKind.u64.bits) == s.1 <;> rfl
    rw [this]; exact h1
  obtain ⟨_, q1, q2⟩ := path_root hu1 u2 u1
  have hh : h.toNat ≤ 32 := by
    have := (subE_nat (h := h) h1 h2).symm.trans n2
    cases ho : okS h.toNat s.1.toNat s.2.toNat with
    | false => rw [ho] at this; cases this
    | true => exact (okN_iff.1 (okS_iff.1 ho).1).2.1
  have hn' : noLab l h m (upS s) = false := by unfold noLab; rw [n1, u1]; rfl
  obtain ⟨w, r, a1, a2, a3⟩ := labelV_run hd (by omega) hn' q1 q2
  obtain ⟨v, r', c1, c2, c3⟩ := labelV_run hd (by omega) hn p1 p2
  obtain ⟨z, r'', d1, d2, d3⟩ := a3.walkV (sd := [lowB s.2]) (fun x hx => by rw [List.mem_singleton.1 hx]; exact u4) (by simp) (by simp; omega)
  -- one walk
  have e1 : labelV l h m s = endW (walkL (m, l, 0) (labP h s)) := by
    unfold labelV; rw [hn, hd.start, labelW_ok p1 p2]; rfl
  have e2 : labelV l h m (upS s) = endW (walkL (m, l, 0) (labP h (upS s))) := by
    unfold labelV; rw [hn', hd.start, labelW_ok q1 q2]; rfl
  have e3 : walkL (m, l, 0) (labP h (upS s)) = (w, l ++ r, 0) := by
    have := e2.symm.trans a1
    have h9 := endW_err (x := walkL (m, l, 0) (labP h (upS s))) (by rw [this])
    rw [← this]; exact h9.2.symm
  have e4 : walkV (l ++ r) w [lowB s.2] = endW (walkL (w, l ++ r, 0) [lowB s.2]) := by
    unfold walkV
    have : noWalk (l ++ r) w [lowB s.2] = false := by
      cases hw : noWalk (l ++ r) w [lowB s.2] with
      | false => rfl
      | true =>
        unfold walkV at d1; rw [hw] at d1
        have := congrArg (fun x : WS => x.2.2) d1
        exact absurd (show (1 : Int) = 0 from this) (by decide)
    rw [this, a3.start]; rfl
  have e5 : walkV (l ++ r) w [lowB s.2] = labelV l h m s := by
    rw [e4, e1, u3, walkL_app, e3]
  have hc : upC (labelV l h m s) (labelV l h m (upS s)) (walkV (labelV l h m (upS s)).2.1 (labelV l h m (upS s)).1 [lowB s.2]) = true := by
    rw [a1]
    show upC (labelV l h m s) (w, l ++ r, 0) (walkV (l ++ r) w [lowB s.2]) = true
    rw [e5]
    unfold upC
    rw [he, valEq_iff.2 rfl, show sameL (labelV l h m s).2.1 (labelV l h m s).2.1 = true from decide_eq_true rfl]; rfl
  unfold upR
  rw [hc, small_of (by omega), a1, small_of (by simp; omega)]; rfl
theorem good604 (x : ADen L4) : Good Tryd.prog N604 (encA L4 x) (.one (.bool true)) := by
  have g : GoodS Tryd.prog N604 (.fn L4 fun _ => (true, .one (.bool true))) := by
    refine good Γ604ok H604 rfl (by kernel_rfl) noL [] (noLoops (by kernel_rfl)) L4 (by decide) [] _ fun x r hw e => ?_
    obtain ⟨l, h, m, s⟩ := x
    cases e
    refine (r604 l h m s).trans ?_
    cases hl : decide ((l.length : Int) > 60) with
    | true => rfl
    | false =>
      have hl : l.length ≤ 60 := by simp at hl; omega
      rw [small_of (by omega)]
      simp only [cond_true, cond_false]
      cases he : (labelV l h m s).2.2 != 0 with
      | true =>
        have he' : (labelV l h m s).2.2 ≠ 0 := by simpa using he
        rw [(labelV_bad he').1, show ((labelV l h m s).2.2 == 0) = false by simpa using he', valEq_iff.2 rfl]; rfl
      | false =>
        have he' : (labelV l h m s).2.2 = 0 := by simpa using he
        cases hz : s.2 == 0 with
        | true => rw [he']; rfl
        | false =>
          have := up_true hl hw.2.2.2.1 hw.2.2.2.2 he' (by simpa using hz)
          simp only [cond_false]
          unfold upS at this
          show (bif halfI s.2 == s.1 then upR l h m s (s.1, 0) else upR l h m s (s.1, halfI s.2)) = oB true
          unfold halfI
          rw [← this]
          cases Int.fdiv s.2 (2 ^ min (Int.toNat 1) IntKind.u64.bits) == s.1 <;> rfl
  exact g.2.1 _ _ (by kernel_rfl)
end Go.AM.Seat
