/- the laws of know: KnowWhy. -/
import Derived.Test.YtnkdeglckmogcaaSeKU
import Derived.Test.YtnkdeglckmogcaaSeKP
import Derived.Test.YtnkdeglckmogcaaPlKc
set_option linter.unusedVariables false
set_option linter.unusedSimpArgs false
set_option maxRecDepth 100000
namespace Go.AM.Seat
open Go Go.AM Go.Proofs
noncomputable def Γ12 : Orc := orc [(N28, s28), (N29, s29), (N32, s32), (N41, s41), (N34, s34)]
def w12 (l : List Term.D) (h : List Int) (i : Int) : List Int := (whyK l h i).1
noncomputable def c12 (l : List Term.D) (h : List Int) (i : Int) : Bool := bif (bif (bif (whyK l h i).2 == 0 then (isK l h (w12 l h i)).2 == 0 else false) then (isK l h (w12 l h i)).1 else false) then decide (((w12 l h i).length : Int) > 0) else false
def j12 (l : List Term.D) (h : List Int) (i : Int) : Int := IntKind.i64.wrap (((w12 l h i).length : Int) - 1)
theorem r12 (l : List Term.D) (h : List Int) (i : Int) : run Γ12 noL [] F12 [.one (.sl false Term none l), .one (.sl false I none h), .one (.int .i64 i)] [] =
    bif !fewK l [h] then some (.one (.bool true)) else bif (knowsK l h i).2 != 0 then some (.one (.bool (bif (whyK l h i).2 == (knowsK l h i).2 then ((w12 l h i).length : Int) == 0 else false))) else
    bif !(knowsK l h i).1 then some (.one (.bool (bif (whyK l h i).2 == 4 then ((w12 l h i).length : Int) == 0 else false))) else
    bif inB (j12 l h i) (w12 l h i).length || !boolBeq (c12 l h i) true then some (.one (.bool (bif c12 l h i then kA (w12 l h i) (j12 l h i) == i else false))) else none := by kernel_rfl
theorem idxI_mem {xs : List Int} {t : Int} (h : t ∈ xs) : ∃ k : Nat, idxI xs t = k ∧ ∃ hk : k < xs.length, xs[k] = t := by
  have key : ∀ (xs : List Int) (i : Nat), t ∈ xs → ∃ k : Nat, idxFrom (fun y => t == y) xs i = ((i + k : Nat) : Int) ∧ ∃ hk : k < xs.length, xs[k] = t := by
    intro xs
    induction xs with
    | nil => intro i h; cases h
    | cons x xs ih =>
      intro i h
      simp only [idxFrom]
      cases hx : t == x with
      | true => exact ⟨0, by simp, by simp, by simpa using (eq_of_beq hx).symm⟩
      | false =>
        have hm : t ∈ xs := by
          rcases List.mem_cons.1 h with e | e
          · rw [e] at hx; simp at hx
          · exact e
        obtain ⟨k, e1, hk, e2⟩ := ih (i + 1) hm
        refine ⟨k + 1, ?_, by simpa using hk, by simpa using e2⟩
        simp only [cond_false]
        rw [show ((i : Int) + 1) = ((i + 1 : Nat) : Int) by omega, e1]; congr 1; omega
  obtain ⟨k, e1, e2⟩ := key xs 0 h
  exact ⟨k, by unfold idxI; rw [show (0 : Int) = ((0 : Nat) : Int) from rfl, e1, Nat.zero_add], e2⟩
theorem good12 : ∀ x, Good Try.prog N12 (encA [.v (.sl Term), .v (.sl I), .v I] x) (.one (.bool true)) := by
  intro x
  obtain ⟨l, h, i⟩ := x
  have g : GoodS Try.prog N12 (.fn [.v (.sl Term), .v (.sl I), .v I] fun _ => (true, .one (.bool true))) := by
    refine good (.cons g28 (.cons g29 (.cons g32 (.cons g41 (.cons g34 (.nil _)))))) H12 rfl (by kernel_rfl) noL [] (noLoops (by kernel_rfl)) [.v (.sl Term), .v (.sl I), .v I] (by decide) [] _ fun x r hw e => ?_
    obtain ⟨l, h, i⟩ := x
    cases e
    refine (r12 l h i).trans ?_
    cases fewK l [h] with
    | false => rfl
    | true =>
      simp only [Bool.not_true, cond_false]
      rcases knows_cases l h i with he | he
      · obtain ⟨hh, hg, hi⟩ := knows_err he
        obtain ⟨k1, k2⟩ := knows_of hh hg hi
        obtain ⟨s, hs⟩ := known_ok hh hg
        have hc2 : checkK l [h, [i]] = 0 := checkK_two.2 ⟨hh, hi, hg⟩
        have hw : whyK l h i = bif decide (idK l h i < 0) then ([], 4) else ((knA l h).2.take ((idK l h i).toNat + 1), 0) := by unfold whyK; rw [hc2]; rfl
        rw [k1]
        simp only [bne_self_eq_false, cond_false]
        cases hk : (knowsK l h i).1 with
        | false =>
          have hn : i ∉ s.2 := fun e => by rw [k2.2 ((hs.mem i).1 e)] at hk; cases hk
          have hid : decide (idK l h i < 0) = true := by
            have : idK l h i = idxFrom (fun y => i == y) (knA l h).2 0 := rfl
            rw [this, idxFrom_lt _ _ _ (Int.le_refl 0), Bool.not_eq_true', List.any_eq_false, hs.a]
            intro y hy
            have : ¬ i = y := fun e => hn (e ▸ hy)
            simpa using this
          have hw2 : w12 l h i = [] := by unfold w12; rw [hw, hid]; rfl
          simp only [Bool.not_false, cond_true]
          rw [hw2, hw, hid]; rfl
        | true =>
          have hm : i ∈ s.2 := (hs.mem i).2 (k2.1 hk)
          obtain ⟨k, e1, hkl, e2⟩ := idxI_mem hm
          have hid : idK l h i = k := by unfold idK; rw [hs.a]; exact e1
          have hw2 : whyK l h i = (s.2.take (k + 1), 0) := by rw [hw, hid, decide_eq_false (show ¬ (k : Int) < 0 by omega), hs.a]; rfl
          have hw3 : w12 l h i = s.2.take (k + 1) := by unfold w12; rw [hw2]
          have hlen : (s.2.take (k + 1)).length = k + 1 := by rw [List.length_take]; omega
          have hsl := hs.len
          have hst : OkP l (s.2.take (k + 1)) := ⟨by omega, fun y hy => hs.ok.rng y (List.mem_of_mem_take hy)⟩
          obtain ⟨i1, i2⟩ := isK_true hh hst hg
          have hj : j12 l h i = k := by unfold j12; rw [hw3, hlen, show ((k + 1 : Nat) : Int) - 1 = k by omega]; exact wrap64 (by omega) (by omega)
          have hcc : c12 l h i = true := by
            unfold c12
            rw [hw2, hw3, i1, i2.2 (known_chain hh hg hs _), hlen, decide_eq_true (show ((k + 1 : Nat) : Int) > 0 by omega)]; rfl
          have hl : kA (s.2.take (k + 1)) k = i := by
            unfold kA
            simp [hkl]
            exact e2
          simp only [Bool.not_true, cond_false]
          rw [hcc, hj, hw3, inB_lt (by rw [hlen]; omega), hl]
          simp
      · rw [he]
        have hw : whyK l h i = ([], 1) := by
          have hc : checkK l [h, [i]] = 1 := (checkK_cases l [h, [i]]).resolve_left fun e => by
            obtain ⟨hh, hi, hg⟩ := checkK_two.1 e
            have := (knows_of hh hg hi).1
            rw [he] at this; cases this
          unfold whyK
          rw [hc]; rfl
        have hw2 : w12 l h i = [] := by unfold w12; rw [hw]
        rw [hw2, hw]; rfl
  exact g.2.1 _ _ (by kernel_rfl)
end Go.AM.Seat
