/- know: the definition's functions come to the own specs; the example. -/
import Derived.Test.YtnkdeglckmogcaaPlKr
set_option linter.unusedVariables false
set_option linter.unusedSimpArgs false
set_option maxRecDepth 100000
namespace Go.AM.Seat
open Go Go.AM Go.Proofs

theorem places_check {l : List Term.D} {h : List Int} : placesR l h = !(checkK l [h] != 0) := by
  cases hp : placesR l h with
  | true =>
    have := placesR_iff.1 hp
    rw [checkK_one.2 this]; rfl
  | false =>
    rcases checkK_cases l [h] with e | e
    · rw [placesR_iff.2 (checkK_one.1 e)] at hp; cases hp
    · rw [e]; rfl
theorem bad_one {l : List Term.D} {at' : List (List Int)} (h : (checkK l at' != 0) = true) : checkK l at' = 1 :=
  (checkK_cases l at').resolve_left (by simpa using h)
theorem g37 : GoodS Try.prog N37 s30 := by
  refine good Γ37ok H37 rfl (by kernel_rfl) noL [] (noLoops (by kernel_rfl)) [.v (.sl Term), .v (.sl I)] (by decide) [.sl true I] _ fun x r hw e => ?_
  obtain ⟨l, h⟩ := x
  cases e
  refine (r37 l h).trans ?_
  show _ = some (rK (allK l h).1 (allK l h).2)
  unfold allK
  rw [places_check, Bool.not_not]
  cases hc : checkK l [h] != 0 with
  | true => rw [bad_one hc]; rfl
  | false =>
    obtain ⟨hh, hg⟩ := checkK_one.1 (by simpa using hc)
    obtain ⟨e1, e2⟩ := knownR_eq hh hg
    rw [e1, e2]; rfl
theorem g38 : GoodS Try.prog N38 s32 := by
  refine good Γ37ok H38 rfl (by kernel_rfl) noL [] (noLoops (by kernel_rfl)) [.v (.sl Term), .v (.sl I), .v I] (by decide) [] _ fun x r hw e => ?_
  obtain ⟨l, h, i⟩ := x
  cases e
  refine (r38 l h i).trans ?_
  show _ = some (rB (knowsK l h i).1 (knowsK l h i).2)
  unfold knowsK badK allK
  rw [places_check, Bool.not_not]
  cases hc : checkK l [h] != 0 with
  | true => simp only [cond_true]; rw [bad_one hc]; rfl
  | false =>
    obtain ⟨hh, hg⟩ := checkK_one.1 (by simpa using hc)
    obtain ⟨e1, e2⟩ := knownR_eq hh hg
    have e3 : inL (knownL l h) i = foundB (knownL l h) i := by
      rw [Bool.eq_iff_iff, inL_iff, found_iff (known_asc hh hg)]
    simp only [cond_false]
    rw [e1, e2, e3]
    cases decide (i < 0) <;> cases decide (i ≥ (l.length : Int)) <;> rfl
theorem g39 : GoodS Try.prog N39 s33 := by
  refine good Γ39ok H39 rfl (by kernel_rfl) Λ39 [(0, live39)] (oneLoop (p0 := loop1 F39) (by kernel_rfl) loop39) [.v (.sl Term), .v (.sl I)] (by decide) [] _ fun x r hw e => ?_
  obtain ⟨l, h⟩ := x
  cases e
  refine (r39 l h).trans ?_
  show _ = some (rB (shutK l h).1 (shutK l h).2)
  unfold shutK
  rw [places_check, Bool.not_not]
  cases hc : checkK l [h] != 0 with
  | true => rw [bad_one hc]; rfl
  | false =>
    obtain ⟨hh, hg⟩ := checkK_one.1 (by simpa using hc)
    have hmx := hg.1
    rw [decide_eq_true rfl, decide_eq_true (show (l.length : Int) ≤ 9223372036854775807 by omega), show (h.all fun k => inB k l.length) = true from List.all_eq_true.2 fun x hx => inB_iff.2 (hh.2 x hx), anyN_not]
    have e : (!anyN (fun i => bif folR l h i then !inL h i else false) l.length) = !h.any (not33 l (useL l) (kn0 l h)) := by rw [Bool.eq_iff_iff, shutR_iff hg hh, shut_iff hg hh]
    rw [← e]
    cases anyN (fun i => bif folR l h i then !inL h i else false) l.length <;> rfl
theorem g40 : GoodS Try.prog N40 s34 := by
  refine good Γ39ok H40 rfl (by kernel_rfl) Λ40 [(0, live40)] (oneLoop (p0 := loop1 F40) (by kernel_rfl) loop40) [.v (.sl Term), .v (.sl I), .v (.sl I)] (by decide) [] _ fun x r hw e => ?_
  obtain ⟨l, h, st⟩ := x
  cases e
  refine (r40 l h st).trans ?_
  show _ = some (rB (isK l h st).1 (isK l h st).2)
  unfold isK
  have hp : (bif !placesR l h then true else !placesR l st) = (checkK l [h, st] != 0) := by
    cases h1 : placesR l h with
    | false =>
      rcases checkK_cases l [h, st] with e | e
      · have := checkK_pair.1 e; rw [placesR_iff.2 ⟨this.1, this.2.2⟩] at h1; cases h1
      · rw [e]; rfl
    | true =>
      have a1 := placesR_iff.1 h1
      cases h2 : placesR l st with
      | false =>
        rcases checkK_cases l [h, st] with e | e
        · have := checkK_pair.1 e; rw [placesR_iff.2 ⟨this.2.1, this.2.2⟩] at h2; cases h2
        · rw [e]; rfl
      | true =>
        have a2 := placesR_iff.1 h2
        rw [checkK_pair.2 ⟨a1.1, a2.1, a1.2⟩]; rfl
  rw [hp]
  cases hc : checkK l [h, st] != 0 with
  | true => rw [bad_one hc]; rfl
  | false =>
    obtain ⟨hh, hst, hg⟩ := checkK_pair.1 (by simpa using hc)
    have hl := hst.1
    rw [decide_eq_true rfl, decide_eq_true (show (st.length : Int) ≤ 9223372036854775807 by omega), @decide_eq_true _ (Classical.propDecidable _) rfl, show (st.all fun k => inB k l.length) = true from List.all_eq_true.2 fun x hx => inB_iff.2 (hst.2 x hx), anyN_not]
    have e := isR_iff (h := h) hg hh hst
    cases ha : anyN (fun i => badI l h st i) st.length with
    | false =>
      rw [@decide_eq_true _ (Classical.propDecidable _) (e.1 (by rw [ha]; rfl))]; rfl
    | true =>
      rw [@decide_eq_false _ (Classical.propDecidable _) (fun c => by have := e.2 c; rw [ha] at this; cases this)]; rfl
/-! ### the example -/
def Γ28 : Orc := orc [(N32, s32)]
def exL : List Term.D := [(1, 1, 0), (1, 2, 0), (4, 0, 0), (5, 2, 1)]
theorem r28 : run Γ28 noL [] F28 [] [] = some (.one (.bool (bif (bif (bif (knowsK exL [3, 0] 1).2 == 0 then (knowsK exL [3, 1] 0).2 == 0 else false) then (knowsK exL [3, 0] 1).1 else false) then !(knowsK exL [3, 1] 0).1 else false))) := by kernel_rfl
theorem exGood : GoodL exL := checkL_iff.1 (by decide)
theorem knows_of {l : List Term.D} {h : List Int} {i : Int} (hh : OkP l h) (hg : GoodL l) (hi : InL l i) : (knowsK l h i).2 = 0 ∧ ((knowsK l h i).1 = true ↔ Der l h i) := by
  have e : knowsK l h i = (foundB (knownL l h) i, 0) := by
    unfold knowsK badK allK
    rw [checkK_one.2 ⟨hh, hg⟩, decide_eq_false (show ¬ i < 0 by have := hi.1; omega), decide_eq_false (show ¬ i ≥ (l.length : Int) by have := hi.2; omega)]; rfl
  rw [e]
  exact ⟨rfl, by rw [found_iff (known_asc hh hg), known_mem hh hg]⟩
def s28 : Sp := .fn [] fun _ => (true, .one (.bool true))
theorem g28 : GoodS Try.prog N28 s28 := by
  refine good (.cons g32 (.nil _)) H28 rfl (by kernel_rfl) noL [] (noLoops (by kernel_rfl)) [] (by decide) [] _ fun x r hw e => ?_
  cases e
  refine r28.trans ?_
  obtain ⟨a1, a2⟩ := knows_of (l := exL) (h := [3, 0]) (i := 1) ⟨by decide, fun x hx => by simp at hx; rcases hx with rfl | rfl <;> exact ⟨by decide, by decide⟩⟩ exGood ⟨by decide, by decide⟩
  obtain ⟨b1, b2⟩ := knows_of (l := exL) (h := [3, 1]) (i := 0) ⟨by decide, fun x hx => by simp at hx; rcases hx with rfl | rfl <;> exact ⟨by decide, by decide⟩⟩ exGood ⟨by decide, by decide⟩
  have h3 : Der exL [3, 0] 3 := .base (by simp)
  have h0 : Der exL [3, 0] 0 := .base (by simp)
  have h2 : Der exL [3, 0] 2 := .made (x := 2) ⟨by decide, by decide⟩ (by decide) h0 (fun e => absurd e (by decide))
  have h1 : Der exL [3, 0] 1 := Der.out (w := 3) ⟨by decide, by decide⟩ (by decide) h3 h2
  have n0 : ¬ Der exL [3, 1] 0 := fun H => by
    have := Der.least (l := exL) (h := [3, 1]) (S := fun x => x = 3 ∨ x = 1) (fun x hx => by simpa using hx) (fun x hx => by
      rcases hx with ⟨⟨i1, i2⟩, h2, h3, h4⟩ | ⟨w, ⟨i1, i2⟩, h2, h3, h4, rfl⟩
      · obtain ⟨n, rfl⟩ := Int.eq_ofNat_of_zero_le i1
        have hn : n < 4 := by have : (n : Int) < 4 := i2; omega
        match n, hn with
        | 0, _ => exact absurd rfl h2
        | 1, _ => exact absurd rfl h2
        | 2, _ => exact absurd h3 (by decide)
        | 3, _ => exact .inl rfl
      · obtain ⟨n, rfl⟩ := Int.eq_ofNat_of_zero_le i1
        have hn : n < 4 := by have : (n : Int) < 4 := i2; omega
        match n, hn with
        | 0, _ => exact absurd h2 (by decide)
        | 1, _ => exact absurd h2 (by decide)
        | 2, _ => exact absurd h2 (by decide)
        | 3, _ => exact .inr rfl) 0 H
    rcases this with e | e <;> cases e
  have c2 : (knowsK exL [3, 1] 0).1 = false := by
    cases h : (knowsK exL [3, 1] 0).1 with
    | false => rfl
    | true => exact absurd (b2.1 h) n0
  rw [a1, b1, a2.2 h1, c2]; rfl
end Go.AM.Seat
