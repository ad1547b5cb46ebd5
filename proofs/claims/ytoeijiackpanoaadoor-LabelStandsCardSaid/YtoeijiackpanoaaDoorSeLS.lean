/- The law LabelStands: its run, and that it answers true. -/
import Derived.Test.YtoeijiackpanoaaDoorPlApart
import Derived.Test.YtoeijiackpanoaaDoorPlEv
set_option linter.unusedVariables false
set_option linter.unusedSimpArgs false
set_option maxRecDepth 100000
namespace Go.AM.Seat
open Go Go.AM Go.Proofs

def Γ607 : Orc := orc [(N608, sLive), (N320, s320), (N609, s609), (N42, s42)]
theorem Γ607ok : OrcOk Tryd.prog Γ607 := .cons g608 (.cons g320 (.cons g609 (.cons g42 (.nil _))))
@[reducible] def K4s : List AK := [.v Block, .v I, .v I, .v Subset]
abbrev l1 : List Term.D := [(1, 0, 0)]
def stX (h k : Int) (s : Subset.D) : WS := keyV l1 h k (symV 0) s
def stY (b : Block.D) (h k : Int) (s : Subset.D) : WS := keyV [] h k (octV b) s
def stN (h : Int) (s : Subset.D) : WS := nodeV l1 h (symV 0) s.1
def stM (b : Block.D) (h : Int) (s : Subset.D) : WS := nodeV [] h (octV b) s.1
def stE (b : Block.D) (x : WS) : Value.D × Int := evalI x.2.1 x.1.2.2.2.2 [b]
def stAll (b : Block.D) (h k : Int) (s : Subset.D) : Bool :=
  bif bif bif bif bif bif bif (stY b h k s).2.2 == 0 then (stE b (stX h k s)).2 == 0 else false then (stN h s).2.2 == 0 else false then (stM b h s).2.2 == 0 else false then (stE b (stN h s)).2 == 0 else false then valEq (stE b (stX h k s)).1 (stY b h k s).1 else false then valEq (stE b (stN h s)).1 (stM b h s).1 else false then ((stY b h k s).2.1.length : Int) == 0 else false
theorem r607 (b : Block.D) (h k : Int) (s : Subset.D) : run Γ607 noL [] F607 (encA K4s (b, h, k, s)) [] =
    bif (stX h k s).2.2 != 0 then oB ((stX h k s).2.2 == (stY b h k s).2.2) else oB (stAll b h k s) := by kernel_rfl

/-- What a way leads to comes to what is walked to from the block. -/
theorem at_eval {b : Block.D} {l : List Term.D} (hg : GoodL l) (h0 : l[0]? = some (1, 0, 0)) : ∀ {p : List Int} {t : Nat}, In02 p → At l 0 p t → t < l.length ∧ Clear l t [b] ∧ (tAt l t).1 ≠ 5 ∧ valT l [b] t = octV (foldW b p) := by
  intro p
  induction p with
  | nil =>
    rintro t _ ⟨rfl, _⟩
    have hl := (List.getElem?_eq_some_iff.1 h0).1
    have e0 : tAt l ((0 : Nat) : Int) = (1, 0, 0) := tAt_get h0
    refine ⟨hl, fun k hk => ?_, by rw [e0]; decide, ?_⟩
    · rcases reach_head hk with rfl | ⟨q, hq, _⟩
      · exact ⟨fun _ => rfl, fun _ => by rw [e0]; exact (by decide : (0 : Int) < 1)⟩
      · rw [e0, parts_of] at hq
        exact absurd hq (by simp)
    · rw [valT_eq hg [b] (by omega) (by omega), e0]; rfl
  | cons i p ih =>
    rintro t hp ⟨u, hu, ht⟩
    have hi := hp i (by simp)
    obtain ⟨u1, u2, u3, u4⟩ := ih (fun x hx => hp x (by simp [hx])) hu
    have hl := (List.getElem?_eq_some_iff.1 ht).1
    have et : tAt l (t : Int) = (2 + i, (u : Int), 0) := tAt_get ht
    refine ⟨hl, fun k hk => ?_, by rw [et]; show (2 + i : Int) ≠ 5; omega, ?_⟩
    · rcases reach_head hk with rfl | ⟨q, hq, hr⟩
      · exact ⟨fun _ => rfl, fun h1 => by rw [et] at h1; have : (2 + i : Int) = 1 := h1; omega⟩
      · rw [et, parts_of, if_pos (show (2 + i : Int) = 2 ∨ (2 + i : Int) = 3 ∨ (2 + i : Int) = 4 by omega)] at hq
        obtain rfl := List.mem_singleton.1 hq
        obtain ⟨c5, c1⟩ := u2 k hr
        exact ⟨fun h5 => absurd (c5 h5 ▸ h5) u3, c1⟩
    · rw [valT_eq hg [b] (by omega) (by omega), et]
      unfold plainW
      simp only
      rw [beq_false_of_ne (show (2 + i : Int) ≠ 1 by omega), beq_false_of_ne (show (2 + i : Int) ≠ 5 by omega), wrap64 (by omega) (by omega), show (2 + i - 2 : Int) = i by omega, u4]
      rfl
theorem den_eval {b : Block.D} {r : List Term.D} {p : List Int} {v : Value.D} (hd : Den true b 0 (l1 ++ r) p v) : evalI (l1 ++ r) v.2.2.2.2 [b] = (octV (foldW b p), 0) := by
  obtain ⟨hg, hp, t, rfl, ha⟩ := hd
  obtain ⟨h1, h2, _, h4⟩ := at_eval (b := b) hg rfl hp ha
  have := eval_clear (l := l1 ++ r) (i := (t : Int)) (g := [b]) (there_iff.2 ⟨hg, by omega, by omega⟩) h2
  rw [h4] at this
  exact this
theorem den_oct {b : Block.D} {l : List Term.D} {p : List Int} {v : Value.D} (hd : Den false b 0 l p v) : v = octV (foldW b p) := hd.std
theorem good_l1 : GoodL l1 := ⟨by decide, fun j t h => by
  cases j with
  | zero =>
    have : t = (1, 0, 0) := (Option.some.inj h).symm
    subst this
    exact ⟨by decide, by simp⟩
  | succ j => simp at h⟩
theorem den_l1 (b : Block.D) : Den true b 0 l1 [] (symV 0) := ⟨good_l1, (fun x hx => by cases hx), ⟨0, rfl, rfl, (1, 0, 0), rfl, (by decide : (1 : Int) ≠ 5)⟩⟩
theorem den_nil (b : Block.D) : Den false b 0 [] [] (octV b) := ⟨⟨by decide, (fun j t h => by simp at h)⟩, (fun x hx => by cases hx), rfl⟩
theorem stands607 {b : Block.D} {h k : Int} {s : Subset.D} (h1 : IntKind.u64.has s.1) (h2 : IntKind.u64.has s.2) : run Γ607 noL [] F607 (encA K4s (b, h, k, s)) [] = oB true := by
  rw [r607]
  have d1 := den_l1 b
  have d2 := den_nil b
  have hn : noKey [] h k (octV b) s = noKey l1 h k (symV 0) s := by
    unfold noKey
    rw [d1.startE, d2.startE]
  cases hk : noKey l1 h k (symV 0) s with
  | true =>
    have e1 : stX h k s = (zeroV, [], 1) := by unfold stX keyV; rw [hk]; rfl
    have e2 : stY b h k s = (zeroV, [], 1) := by unfold stY keyV; rw [hn, hk]; rfl
    rw [e1, e2]; rfl
  | false =>
    have hm : mayI h k s = (true, 0) := by
      unfold noKey at hk
      rw [d1.startE] at hk
      have hk : (bif (mayI h k s).2 != 0 then true else !(mayI h k s).1) = false := hk
      cases h3 : (mayI h k s).2 != 0 with
      | true => rw [h3] at hk; cases hk
      | false =>
        rw [h3] at hk
        have e3 : (mayI h k s).2 = 0 := by simpa using h3
        have e4 : (mayI h k s).1 = true := by simpa using hk
        exact Prod.ext e4 e3
    have hs := (may_sub hm).1
    obtain ⟨p0, p1, p2⟩ := path_root h1 h2 hs
    have hh : h.toNat ≤ 32 := by
      have := (subE_nat (h := h) h1 h2).symm.trans hs
      cases ho : okS h.toNat s.1.toNat s.2.toNat with
      | false => rw [ho] at this; cases this
      | true => exact (okN_iff.1 (okS_iff.1 ho).1).2.1
    obtain ⟨v, r, a1, _, a3⟩ := keyV_run d1 (show l1.length + (2 * h.toNat + 2) ≤ 65536 by simp; omega) hk p1 p2
    obtain ⟨y, r', c1, c2, c3⟩ := keyV_run d2 (show ([] : List Term.D).length + (2 * h.toNat + 2) ≤ 65536 by simp; omega) (hn.trans hk) p1 p2
    have hr' : r' = [] := by
      have e := c1
      unfold keyV at e
      rw [hn, hk, d2.start, labelW_ok p1 p2] at e
      have key : ∀ (sd : List Int) (x : WS), x.1.1 = false → x.2.1 = [] → (walkL x sd).2.1 = [] := by
        intro sd
        induction sd with
        | nil => intro x _ hx; exact hx
        | cons i sd ih =>
          intro x hf hx
          simp only [walkL]
          refine ih _ ?_ ?_
          · unfold stepW
            cases x.2.2 == 0 with
            | false => exact hf
            | true =>
              simp only [cond_true]
              unfold partV
              cases partBad x.2.1 x.1 i with
              | true => rfl
              | false => rw [hf]; rfl
          · unfold stepW
            cases x.2.2 == 0 with
            | false => exact hx
            | true =>
              simp only [cond_true]
              unfold partV
              cases partBad x.2.1 x.1 i with
              | true => rfl
              | false => rw [hf]; exact hx
      have hw : ∀ x : WS, x.2.1 = [] → (endW x).2.1 = [] := fun x hx => by
        unfold endW
        cases x.2.2 != 0 with
        | true => rfl
        | false => exact hx
      have := congrArg (fun x : WS => x.2.1) e
      simp only [cond_false, List.nil_append] at this
      rw [← this]
      cases hq : k != 1 with
      | true =>
        simp only [cond_true]
        refine hw _ ?_
        have e9 : stepW (walkL (octV b, [], 0) (labP h s)) 2 = walkL (octV b, [], 0) (labP h s ++ [2]) := by rw [walkL_app]; rfl
        rw [e9]
        exact key _ _ rfl rfl
      | false =>
        simp only [cond_false]
        exact hw _ (key _ _ rfl rfl)
    subst hr'
    have eX : stX h k s = (v, l1 ++ r, 0) := a1
    have eY : stY b h k s = (y, [], 0) := c1
    have hc : chkI h s.1 = 0 := by
      have := (subE_nat (h := h) h1 h2).symm.trans hs
      cases ho : okS h.toNat s.1.toNat s.2.toNat with
      | false => rw [ho] at this; cases this
      | true =>
        obtain ⟨q1, _⟩ := okS_iff.1 ho
        obtain ⟨z0, z1, z2⟩ := hasU h1
        rw [chk_nat z0, q1]; rfl
    have n1 : stN h s = endW (walkL (symV 0, l1, 0) (pathI h 1 s.1).1) := nodeV_run d1.startE hc p1
    have n2 : stM b h s = endW (walkL (octV b, [], 0) (pathI h 1 s.1).1) := nodeV_run d2.startE hc p1
    have hpl := path_lenH h 1 s.1
    obtain ⟨x1, r1, w1, w2, w3⟩ := d1.walk (pathI h 1 s.1).1 (path_02 _ _ _) (by simp; omega)
    obtain ⟨x2, r2, u1, u2, u3⟩ := d2.walk (pathI h 1 s.1).1 (path_02 _ _ _) (by simp; omega)
    rw [List.append_nil] at w3 u3
    have eN : stN h s = (x1, l1 ++ r1, 0) := by rw [n1, w1]; rfl
    have eM : stM b h s = (x2, [] ++ r2, 0) := by rw [n2, u1]; rfl
    have v1 : stE b (stX h k s) = (y, 0) := by
      unfold stE
      rw [eX]
      exact (den_eval a3).trans (by rw [den_oct c3])
    have v2 : stE b (stN h s) = (x2, 0) := by
      unfold stE
      rw [eN]
      exact (den_eval w3).trans (by rw [den_oct u3])
    unfold stAll
    rw [v1, v2, eX, eY, eN, eM]
    simp only [valEq_iff.2 rfl]
    rfl
theorem good607 (x : ADen K4s) : Good Tryd.prog N607 (encA K4s x) (.one (.bool true)) := by
  have g : GoodS Tryd.prog N607 (.fn K4s fun _ => (true, .one (.bool true))) := by
    refine good Γ607ok H607 rfl (by kernel_rfl) noL [] (noLoops (by kernel_rfl)) K4s (by decide) [] _ fun x r hw e => ?_
    obtain ⟨b, h, k, s⟩ := x
    cases e
    exact stands607 hw.2.2.2.1 hw.2.2.2.2
  exact g.2.1 _ _ (by kernel_rfl)
end Go.AM.Seat
