/- the laws of values: ValueKnown. -/
import Derived.Test.YtnkdeglckmogcaaSeKU
import Derived.Test.YtnkdeglckmogcaaPlKc
import Derived.Test.YtnkdeglckmogcaaSe8
import Derived.Test.YtnkdeglckmogcaaPlTerm
set_option linter.unusedVariables false
set_option linter.unusedSimpArgs false
set_option maxRecDepth 100000
namespace Go.AM.Seat
open Go Go.AM Go.Proofs
def Γ15 : Orc := orc [(N16, s16), (N32, s32), (N22, s22), (N17, s17), (N18, s18)]
/-- One thing made, and asked for. -/
abbrev ask15 (c : Bool) (q : Bool × Int) (next : Option AV) : Option AV := bif c then bif (bif q.2 != 0 then true else !q.1) then some (.one (.bool false)) else next else next
def pT (v : Value.D) : Int := v.2.2.2.2
theorem r15 (l : List Term.D) (h : List Int) (k v : Value.D) (i : Int) : run Γ15 noL [] F15 (encA [.v (.sl Term), .v (.sl I), .v Value, .v Value, .v I] (l, h, k, v, i)) [] =
    bif (bif (bif (bif decide ((l.length : Int) > 40) then true else decide ((h.length : Int) > 60)) then true else !k.1) then true else !v.1) then some (.one (.bool true)) else
    bif (bif (knowsK l h (pT k)).2 != 0 then true else (knowsK l h (pT v)).2 != 0) then some (.one (.bool true)) else
    ask15 (bif (partV l k i).2.2 == 0 then (knowsK l h (pT k)).1 else false) (knowsK (partV l k i).2.1 h (pT (partV l k i).1))
    (ask15 (bif (bif (wrapV l k v).2.2 == 0 then (knowsK l h (pT k)).1 else false) then (knowsK l h (pT v)).1 else false) (knowsK (wrapV l k v).2.1 h (pT (wrapV l k v).1))
    (ask15 (bif (bif (unwrapV l k v).2 == 0 then (knowsK l h (pT k)).1 else false) then (knowsK l h (pT v)).1 else false) (knowsK l h (pT (unwrapV l k v).1))
    (some (.one (.bool true))))) := by kernel_rfl
theorem kd_ext {l r : List Term.D} {y : Int} (hy : InL l y) : kd (l ++ r) y = kd l y ∧ pa (l ++ r) y = pa l y ∧ pb (l ++ r) y = pb l y := by
  have e : tAt (l ++ r) y = tAt l y := tAt_prefix hy.1 hy.2
  unfold kd pa pb
  rw [e]; exact ⟨rfl, rfl, rfl⟩
theorem inL_ext {l r : List Term.D} {y : Int} (hy : InL l y) : InL (l ++ r) y := ⟨hy.1, by rw [List.length_append]; have := hy.2; omega⟩
theorem der_ext {l r : List Term.D} {h : List Int} {x : Int} (H : Der l h x) : Der (l ++ r) h x :=
  Der.least (S := Der (l ++ r) h) (fun y hy => .base hy) (fun y hy => by
    rcases hy with ⟨h1, h2, h3, h4⟩ | ⟨w, h1, h2, h3, h4, rfl⟩
    · obtain ⟨e1, e2, e3⟩ := kd_ext (r := r) h1
      exact .made (inL_ext h1) (by rw [e1]; exact h2) (by rw [e2]; exact h3) (by rw [e1, e3]; exact h4)
    · obtain ⟨e1, e2, e3⟩ := kd_ext (r := r) h1
      rw [← e3]
      exact .out (inL_ext h1) (by rw [e1]; exact h2) h3 (by rw [e2]; exact h4)) x H
theorem ask_true {c : Bool} {q : Bool × Int} {next : Option AV} (h : c = true → q.2 = 0 ∧ q.1 = true) : ask15 c q next = next := by
  cases c with
  | false => rfl
  | true =>
    obtain ⟨h1, h2⟩ := h rfl
    unfold ask15
    rw [h1, h2]; rfl
/-- What is made of what is known is known. -/
theorem made_knows {l r : List Term.D} {h : List Int} (hh : OkP l h) (hg : GoodL (l ++ r)) {i : Nat} {k a b : Int} (hi : (l ++ r)[i]? = some (k, a, b)) (hk : k ≠ 1) (ha : Der l h a) (hb : k = 5 → Der l h b) : (knowsK (l ++ r) h i).2 = 0 ∧ (knowsK (l ++ r) h i).1 = true := by
  have hlt : i < (l ++ r).length := (List.getElem?_eq_some_iff.1 hi).1
  have hI : InL (l ++ r) (i : Int) := ⟨by omega, by omega⟩
  have hh' : OkP (l ++ r) h := ⟨hh.1, fun x hx => inL_ext (hh.2 x hx)⟩
  obtain ⟨k1, k2⟩ := knows_of hh' hg hI
  have e : tAt (l ++ r) (i : Int) = (k, a, b) := tAt_get hi
  have e1 : kd (l ++ r) (i : Int) = k := by unfold kd; rw [e]
  have e2 : pa (l ++ r) (i : Int) = a := by unfold pa; rw [e]
  have e3 : pb (l ++ r) (i : Int) = b := by unfold pb; rw [e]
  exact ⟨k1, k2.2 (.made hI (by rw [e1]; exact hk) (by rw [e2]; exact der_ext ha) (fun h5 => by rw [e3]; exact der_ext (hb (by rw [← e1]; exact h5))))⟩
theorem good15 : ∀ x, Good Try.prog N15 (encA [.v (.sl Term), .v (.sl I), .v Value, .v Value, .v I] x) (.one (.bool true)) := by
  intro x
  have g : GoodS Try.prog N15 (.fn [.v (.sl Term), .v (.sl I), .v Value, .v Value, .v I] fun _ => (true, .one (.bool true))) := by
    refine good (.cons g16 (.cons g32 (.cons g22 (.cons g17 (.cons g18 (.nil _)))))) H15 rfl (by kernel_rfl) noL [] (noLoops (by kernel_rfl)) [.v (.sl Term), .v (.sl I), .v Value, .v Value, .v I] (by decide) [] _ fun x r hw e => ?_
    obtain ⟨l, h, k, v, i⟩ := x
    cases e
    refine (r15 l h k v i).trans ?_
    cases e0 : (bif (bif (bif (bif decide ((l.length : Int) > 40) then true else decide ((h.length : Int) > 60)) then true else !k.1) then true else !v.1) then some (AV.one (SV.bool true)) else none) with
    | some z =>
      cases hb : (bif (bif (bif decide ((l.length : Int) > 40) then true else decide ((h.length : Int) > 60)) then true else !k.1) then true else !v.1) with
      | true => rfl
      | false => rw [hb] at e0; cases e0
    | none =>
      cases hb : (bif (bif (bif decide ((l.length : Int) > 40) then true else decide ((h.length : Int) > 60)) then true else !k.1) then true else !v.1) with
      | true => rfl
      | false =>
        have hks : k.1 = true := by
          cases hk : k.1 with
          | true => rfl
          | false => rw [hk] at hb; revert hb; cases (bif decide ((l.length : Int) > 40) then true else decide ((h.length : Int) > 60)) <;> exact fun hb => by cases hb
        have hvs : v.1 = true := by
          cases hv : v.1 with
          | true => rfl
          | false => rw [hv, hks] at hb; revert hb; cases (bif decide ((l.length : Int) > 40) then true else decide ((h.length : Int) > 60)) <;> exact fun hb => by cases hb
        simp only [cond_false]
        cases h1 : (knowsK l h (pT k)).2 != 0 with
        | true => rfl
        | false =>
          cases h2 : (knowsK l h (pT v)).2 != 0 with
          | true => rfl
          | false =>
            obtain ⟨hh, hg, hik⟩ := knows_err (l := l) (h := h) (i := pT k) (by simpa using h1)
            obtain ⟨_, _, hiv⟩ := knows_err (l := l) (h := h) (i := pT v) (by simpa using h2)
            obtain ⟨_, ka⟩ := knows_of hh hg hik
            obtain ⟨_, kb⟩ := knows_of hh hg hiv
            simp only [cond_false]
            rw [ask_true (fun hc => ?_), ask_true (fun hc => ?_), ask_true (fun hc => ?_)]
            · -- taken out
              cases e1 : (unwrapV l k v).2 == 0 with
              | false => rw [e1] at hc; cases hc
              | true =>
                cases e2 : (knowsK l h (pT k)).1 with
                | false => rw [e1, e2] at hc; cases hc
                | true =>
                  have e3 : (knowsK l h (pT v)).1 = true := by rw [e1, e2] at hc; exact hc
                  have e1 := eq_of_beq e1
                  have hz : isV l [false, true] [k, v] = 0 := by
                    by_cases hz : isV l [false, true] [k, v] = 0
                    · exact hz
                    · unfold unwrapV at e1
                      rw [show (isV l [false, true] [k, v] != 0) = true by simpa using hz] at e1
                      exact absurd e1 hz
                  obtain ⟨_, c2, _, o2, _⟩ := isV_two.1 hz
                  have h5 : kd l (pT v) = 5 := by
                    unfold ownV at o2
                    rw [hvs] at o2
                    exact eq_of_beq o2
                  have e : unwrapV l k v = bif pa l (pT v) != pT k then (zeroV, 7) else (symV (pb l (pT v)), 0) := by
                    unfold unwrapV
                    rw [hz, hks]; rfl
                  cases hp : pa l (pT v) != pT k with
                  | true => rw [e, hp] at e1; cases e1
                  | false =>
                    have hp : pa l (pT v) = pT k := by simpa using hp
                    rw [e, hp]
                    simp only [bne_self_eq_false, cond_false]
                    have hbI := (hg.tok hiv).fb h5
                    obtain ⟨k1, k2⟩ := knows_of (i := pb l (pT v)) hh hg ⟨hbI.1, by have := hiv.2; omega⟩
                    exact ⟨k1, k2.2 (.out hiv h5 (kb.1 e3) (by rw [hp]; exact ka.1 e2))⟩
            · -- wrapped
              cases e1 : (wrapV l k v).2.2 == 0 with
              | false => rw [e1] at hc; cases hc
              | true =>
                cases e2 : (knowsK l h (pT k)).1 with
                | false => rw [e1, e2] at hc; cases hc
                | true =>
                  have e3 : (knowsK l h (pT v)).1 = true := by rw [e1, e2] at hc; exact hc
                  have e1 := eq_of_beq e1
                  have ew : wrapV l k v = madeV l (5, pT k, pT v) := by
                    unfold wrapV at e1 ⊢
                    by_cases hz : isV l [false, false] [k, v] = 0
                    · rw [hz, hks]; rfl
                    · rw [show (isV l [false, false] [k, v] != 0) = true by simpa using hz] at e1
                      exact absurd e1 hz
                  rw [ew] at e1 ⊢
                  obtain ⟨n, r, m1, _, m3, m4, _⟩ := madeV_ok e1
                  rw [m1]
                  exact made_knows hh m3 m4 (by decide) (ka.1 e2) (fun _ => kb.1 e3)
            · -- a part
              cases e1 : (partV l k i).2.2 == 0 with
              | false => rw [e1] at hc; cases hc
              | true =>
                have e2 : (knowsK l h (pT k)).1 = true := by rw [e1] at hc; exact hc
                have e1 := eq_of_beq e1
                have hb : partBad l k i = false := by
                  cases hb : partBad l k i with
                  | false => rfl
                  | true => unfold partV at e1; rw [hb] at e1; cases e1
                obtain ⟨_, _, i0, i2⟩ := partBad_false.1 hb
                have ew : partV l k i = madeV l (2 + i, pT k, 0) := by
                  unfold partV
                  rw [hb, hks, wrap64 (n := 2 + i) (by omega) (by omega)]; rfl
                rw [ew] at e1 ⊢
                obtain ⟨n, r, m1, _, m3, m4, _⟩ := madeV_ok e1
                rw [m1]
                exact made_knows hh m3 m4 (by omega) (ka.1 e2) (fun h5 => by omega)
  exact g.2.1 _ _ (by kernel_rfl)
end Go.AM.Seat
