/- know: plain laws: in the order in which it came, what is known is a chain. -/
import Derived.Test.YtnkdeglckmogcaaPlKr
set_option linter.unusedVariables false
set_option linter.unusedSimpArgs false
set_option maxRecDepth 100000
namespace Go.AM.Seat
open Go Go.AM Go.Proofs

/-- Each came with what was there. -/
def CO (l : List Term.D) (h : List Int) (q : List Int) : Prop := ∀ k, (hk : k < q.length) → q[k] ∈ h ∨ Fol l (fun y => y ∈ q.take k) q[k]
theorem co_push {l : List Term.D} {h q : List Int} (hq : CO l h q) {x : Int} (hx : x ∈ h ∨ Fol l (fun y => y ∈ q) x) : CO l h (q ++ [x]) := by
  intro k hk
  rcases Nat.lt_or_ge k q.length with h9 | h9
  · rw [List.getElem_append_left h9, List.take_append_of_le_length (by omega)]
    exact hq k h9
  · have : k = q.length := by simp at hk; omega
    subst this
    simpa using hx
theorem learn1_co {l : List Term.D} {h : List Int} {s : Kn} (hq : CO l h s.2) {x : Int} (hx : x ∈ h ∨ Fol l (fun y => y ∈ s.2) x) : CO l h (learn1 s x).2 ∧ ∀ y ∈ s.2, y ∈ (learn1 s x).2 := by
  unfold learn1
  cases mAt s.1 x with
  | true => exact ⟨hq, fun y hy => hy⟩
  | false => exact ⟨co_push hq hx, fun y hy => List.mem_append_left _ hy⟩
theorem learnL_co {l : List Term.D} {h q : List Int} : ∀ (ls : List Int) {s : Kn}, CO l h s.2 → (∀ y ∈ q, y ∈ s.2) → (∀ x ∈ ls, x ∈ h ∨ Fol l (fun y => y ∈ q) x) → CO l h (learnL s ls).2 := by
  intro ls
  induction ls with
  | nil => intro s hs _ _; exact hs
  | cons x ls ih =>
    intro s hs hq hx
    obtain ⟨a1, a2⟩ := learn1_co hs ((hx x (by simp)).imp id fun H => H.mono hq)
    exact ih a1 (fun y hy => a2 y (hq y hy)) (fun y hy => hx y (by simp [hy]))
theorem all_co {l : List Term.D} (hg : GoodL l) {D : Int → Prop} (hD : ∀ x, Fol l D x → D x) {h : List Int} : ∀ (f k : Nat) {s s' : Kn}, KOk l D s → CO l h s.2 → allO l (useL l) f s k = some s' → CO l h s'.2 := by
  intro f
  induction f with
  | zero => intro k s s' _ _ e; cases e
  | succ f ih =>
    intro k s s' ho hc e
    rw [allO] at e
    rcases Nat.lt_or_ge k s.2.length with hlt | hge
    · rw [decide_eq_true hlt] at e
      have hkA : kA s.2 k = s.2[k] := by unfold kA; simp [hlt]
      have hi := ho.rng (kA s.2 k) (by rw [hkA]; exact List.getElem_mem hlt)
      cases hb : (next68ok l s.1 (useL l) (kA s.2 k) && okLearn s (nextL l s.1 (useL l) (kA s.2 k))) with
      | false => rw [hb] at e; cases e
      | true =>
        rw [hb] at e
        have hnx := next_in hg hD ho hi
        refine ih (k + 1) (learnL_ok _ ho (fun x hx => (hnx x hx).1) (fun x hx => (hnx x hx).2)).1 (learnL_co (q := s.2) _ hc (fun y hy => hy) fun y hy => .inr ?_) e
        unfold nextL at hy
        obtain ⟨u, hu, hy⟩ := List.mem_flatMap.1 hy
        have hu := row_in hg hi u hu
        rcases (nextU_mem hg ho hu y).1 hy with ⟨rfl, h1, h2, h3⟩ | ⟨rfl, h1, h2, h3⟩
        · exact .inl ⟨hu, h1, h2, h3⟩
        · exact .inr ⟨u, hu, h1, h2, h3, rfl⟩
    · rw [decide_eq_false (by omega)] at e
      cases hr : kRoom s.2.length with
      | false => rw [hr] at e; cases e
      | true => rw [hr] at e; cases e; exact hc
theorem known_co {l : List Term.D} {h : List Int} (hh : OkP l h) (hg : GoodL l) {s : Kn} (hs : Known l h s) : CO l h s.2 := by
  obtain ⟨b1, b2⟩ := kn0_ok hh
  refine all_co hg (D := Der l h) (fun x H => Der.fol H) _ _ b1 ?_ hs.some
  exact learnL_co (q := []) h (fun k hk => by simp at hk) (fun y hy => by cases hy) (fun x hx => .inl hx)
/-- Any beginning is a chain. -/
theorem known_chain {l : List Term.D} {h : List Int} (hh : OkP l h) (hg : GoodL l) {s : Kn} (hs : Known l h s) (n : Nat) : Chain l h [] (s.2.take n) := by
  rw [chain_iff]
  intro k hk
  have hk' : k < s.2.length := by simp at hk; omega
  have hkn : k < n := by simp at hk; omega
  rw [List.nil_append, List.take_take, Nat.min_eq_left (by omega), List.getElem_take]
  refine ⟨fun hm => ?_, known_co hh hg hs k hk'⟩
  obtain ⟨j, hj, e⟩ := List.getElem_of_mem hm
  simp only [List.length_take] at hj
  rw [List.getElem_take] at e
  have := (List.getElem_inj hs.ok.nd).1 e
  omega
/-- What stands in a chain is known. -/
theorem chain_der {l : List Term.D} {h : List Int} : ∀ (r pre : List Int), (∀ x ∈ pre, Der l h x) → Chain l h pre r → ∀ x ∈ r, Der l h x := by
  intro r
  induction r with
  | nil => intro pre _ _ x hx; cases hx
  | cons k r ih =>
    intro pre hp hc x hx
    obtain ⟨_, h2, h3⟩ := hc
    have hk : Der l h k := h2.elim .base fun H => Der.fol (H.mono hp)
    rcases List.mem_cons.1 hx with rfl | hx
    · exact hk
    · refine ih (pre ++ [k]) (fun y hy => ?_) h3 x hx
      rcases List.mem_append.1 hy with hy | hy
      · exact hp y hy
      · rw [List.mem_singleton.1 hy]; exact hk
theorem chain_take {l : List Term.D} {h r : List Int} (hc : Chain l h [] r) (n : Nat) : Chain l h [] (r.take n) := by
  rw [chain_iff] at hc ⊢
  intro k hk
  have hk' : k < r.length := by simp at hk; omega
  have hkn : k < n := by simp at hk; omega
  have := hc k hk'
  rw [List.take_take, Nat.min_eq_left (by omega), List.getElem_take]
  exact this
theorem isK_true {l : List Term.D} {h st : List Int} (hh : OkP l h) (hst : OkP l st) (hg : GoodL l) : (isK l h st).2 = 0 ∧ ((isK l h st).1 = true ↔ Chain l h [] st) := by
  have e : isK l h st = (@decide (Chain l h [] st) (Classical.propDecidable _), 0) := by unfold isK; rw [checkK_pair.2 ⟨hh, hst, hg⟩]; rfl
  rw [e]
  exact ⟨rfl, ⟨fun h => @of_decide_eq_true _ (Classical.propDecidable _) h, fun h => @decide_eq_true _ (Classical.propDecidable _) h⟩⟩
theorem isK_err {l : List Term.D} {h st : List Int} (he : (isK l h st).2 = 0) : OkP l h ∧ OkP l st ∧ GoodL l := by
  refine checkK_pair.1 ?_
  unfold isK at he
  rcases checkK_cases l [h, st] with e | e
  · exact e
  · rw [e] at he; cases he
theorem knows_err {l : List Term.D} {h : List Int} {i : Int} (he : (knowsK l h i).2 = 0) : OkP l h ∧ GoodL l ∧ InL l i := by
  unfold knowsK at he
  cases hb : badK l h i with
  | true => rw [hb] at he; cases he
  | false =>
    unfold badK at hb
    cases ha : (allK l h).2 != 0 with
    | true => rw [ha] at hb; cases hb
    | false =>
      rw [ha] at hb
      have hc : checkK l [h] = 0 := by
        unfold allK at ha
        rcases checkK_cases l [h] with e | e
        · exact e
        · rw [e] at ha; cases ha
      obtain ⟨hh, hg⟩ := checkK_one.1 hc
      refine ⟨hh, hg, oddI_false.1 ?_⟩
      unfold oddI
      exact hb
theorem knows_cases (l : List Term.D) (h : List Int) (i : Int) : (knowsK l h i).2 = 0 ∨ knowsK l h i = (false, 1) := by
  unfold knowsK
  cases badK l h i with
  | true => exact .inr rfl
  | false => exact .inl rfl
end Go.AM.Seat
