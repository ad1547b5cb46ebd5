/- know: the definition's All, Knows, Shut, Is. -/
import Derived.Test.YtnkdeglckmogcaaSeKQ
import Derived.Test.YtnkdeglckmogcaaSeKE
import Derived.Test.YtnkdeglckmogcaaPlTR
set_option linter.unusedVariables false
set_option linter.unusedSimpArgs false
set_option maxRecDepth 100000
namespace Go.AM.Seat
open Go Go.AM Go.Proofs
def Γ37 : Orc := orc [(N75, s75), (N76, s76), (N77, s77)]
theorem Γ37ok : OrcOk Try.prog Γ37 := .cons g75 (.cons g76 (.cons g77 (.nil _)))
def gd76 (l : List Term.D) (h : List Int) : Bool := decide (l.length ≤ 1000000) && (nRoom h.length && (outR l (l.length + 2) h).isSome)
theorem r37 (l : List Term.D) (h : List Int) : run Γ37 noL [] F37 [.one (.sl false Term none l), .one (.sl false I none h)] [.sl true I] =
    bif !placesR l h then some (rK [] 1) else bif gd76 l h then some (rK (knownR l h) 0) else none := by kernel_rfl
theorem r38 (l : List Term.D) (h : List Int) (i : Int) : run Γ37 noL [] F38 [.one (.sl false Term none l), .one (.sl false I none h), .one (.int .i64 i)] [] =
    bif (bif (bif !placesR l h then true else decide (i < 0)) then true else decide (i ≥ (l.length : Int))) then some (rB false 1) else bif gd76 l h then some (rB (inL (knownR l h) i) 0) else none := by kernel_rfl
/-! ### Shut -/
def Γ39 : Orc := orc [(N75, s75), (N77, s77), (N78, s78)]
theorem Γ39ok : OrcOk Try.prog Γ39 := .cons g75 (.cons g77 (.cons g78 (.nil _)))
abbrev live39 : List (Nat × Dir) := [(0, .keep), (1, .keep), (4, .keep), (5, .keep), (12, .keep), (13, .keep)]
def vs39 (l : List Term.D) (xs : List Int) (r : Bool) (e : Int) (n i : Int) : List AV := [.one (.sl false Term none l), .one (.sl false I none xs), .one (.bool r), .one (.int .i64 e), .one (.int .i64 n), .one (.int .i64 i)]
noncomputable abbrev lo39 (Λ : Lam AV) (K : AE → List AV → Option AV) (fuel : Nat) (vs : List AV) : Option AV := loopN (aexec tb Γ39 Λ ⟨27, 0, [(0, live39)]⟩ (loop1 F39).2 0) 27 0 live39 K fuel vs
theorem step39 (l : List Term.D) (xs : List Int) (r : Bool) (e : Int) (n i : Int) (Λ : Lam AV) (K : AE → List AV → Option AV) (fuel : Nat) : lo39 Λ K (fuel + 1) (vs39 l xs r e n i) =
    bif decide (i < n) then bif inB i l.length && xs.all (fun k => inB k l.length) then bif (bif folR l xs i then !inL xs i else false) then K .ret (vs39 l xs false 0 n i) else lo39 Λ K fuel (vs39 l xs r e n (IntKind.i64.wrap (i + 1))) else none else K (.exit 0) (vs39 l xs r e n i) := by kernel_rfl
noncomputable def Λ39 : Lam AV := fun cur vs K =>
  match cur, vs with
  | 0, [.one (.sl false (.pair (.int .i64) (.pair (.int .i64) (.int .i64))) none l), .one (.sl false (.int .i64) none xs), .one (.bool r), .one (.int .i64 e), .one (.int .i64 n), .one (.int .i64 0)] =>
    bif decide (n = l.length) && (decide (n ≤ 9223372036854775807) && xs.all (fun k => inB k l.length)) then
      (bif decide (idxN (fun i => bif folR l xs i then !inL xs i else false) (l.length) 0 < 0) then K (.exit 0) (vs39 l xs r e n n) else K .ret (vs39 l xs false 0 n (idxN (fun i => bif folR l xs i then !inL xs i else false) (l.length) 0)))
    else none
  | _, _ => none
theorem loop39 : LoopP tb Γ39 Λ39 ⟨27, 0, [(0, live39)]⟩ (loop1 F39) := by
  intro vs K out h
  have hcur : (loop1 F39).1 = 0 := by kernel_rfl
  rw [hcur] at h ⊢
  unfold Λ39 at h
  split at h
  · rename_i l xs r e n _
    cases hc : (decide (n = l.length) && (decide (n ≤ 9223372036854775807) && xs.all (fun k => inB k l.length))) with
    | false => rw [hc] at h; cases h
    | true =>
      rw [hc] at h
      simp only [cond_true] at h
      rw [Bool.and_eq_true, Bool.and_eq_true] at hc
      obtain ⟨h1, h2, hall⟩ := hc
      have h1 := of_decide_eq_true h1
      have hmax := of_decide_eq_true h2
      subst h1
      refine findN (ok := fun i => inB i l.length && xs.all (fun k => inB k l.length)) (ans := fun i => bif folR l xs i then !inL xs i else false) (F := fun fuel i => lo39 Λ39 K fuel (vs39 l xs r e (l.length) i)) (Kx := fun i => K (.exit 0) (vs39 l xs r e (l.length) i)) (Kr := fun i => K .ret (vs39 l xs false 0 (l.length) i)) hmax
        (fun fuel i => (step39 l xs r e (l.length) i Λ39 K fuel).trans ?_) (fun j hj => ?_) h
      · rfl
      · rw [inB_lt hj, hall]; rfl
  · cases h
theorem r39 (l : List Term.D) (xs : List Int) : run Γ39 Λ39 [(0, live39)] F39 [.one (.sl false Term none l), .one (.sl false I none xs)] [] =
    bif !placesR l xs then some (rB false 1) else bif decide ((l.length : Int) = l.length) && (decide ((l.length : Int) ≤ 9223372036854775807) && xs.all (fun k => inB k l.length)) then
      (bif decide (idxN (fun i => bif folR l xs i then !inL xs i else false) l.length 0 < 0) then some (rB true 0) else some (rB false 0))
    else none := by kernel_rfl
/-! ### Is -/
def badI (l : List Term.D) (h st : List Int) (i : Int) : Bool := bif inL (st.take i.toNat) (eA st i) then true else bif !inL h (eA st i) then !folR l (st.take i.toNat) (eA st i) else false
def cA40 (st : List Int) (i : Int) : Bool := decide (0 ≤ i) && decide (i ≤ (st.length : Int))
def cH40 (h st : List Int) (i : Int) : Bool := boolBeq (inL (st.take i.toNat) (eA st i)) false && boolBeq (!inL h (eA st i)) true
def cF40 (l : List Term.D) (st : List Int) (i : Int) : Bool := inB (eA st i) l.length && (st.take i.toNat).all fun k => inB k l.length
abbrev live40 : List (Nat × Dir) := [(0, .keep), (1, .keep), (2, .keep), (6, .keep), (7, .keep), (20, .keep), (21, .keep), (22, .keep)]
def vs40 (l : List Term.D) (h0 st : List Int) (r : Bool) (e : Int) (n i : Int) : List AV := [.one (.sl false Term none l), .one (.sl false I none h0), .one (.sl false I none st), .one (.bool r), .one (.int .i64 e), .one (.sl false I none st), .one (.int .i64 n), .one (.int .i64 i)]
noncomputable abbrev lo40 (Λ : Lam AV) (K : AE → List AV → Option AV) (fuel : Nat) (vs : List AV) : Option AV := loopN (aexec tb Γ39 Λ ⟨48, 0, [(0, live40)]⟩ (loop1 F40).2 0) 48 0 live40 K fuel vs
theorem step40 (l : List Term.D) (h0 st : List Int) (r : Bool) (e : Int) (n i : Int) (Λ : Lam AV) (K : AE → List AV → Option AV) (fuel : Nat) : lo40 Λ K (fuel + 1) (vs40 l h0 st r e n i) =
    bif decide (i < n) then bif inB i st.length then bif cA40 st i then bif cA40 st i || !cH40 h0 st i then bif cF40 l st i || !cH40 h0 st i then bif badI l h0 st i then K .ret (vs40 l h0 st false 0 n i) else lo40 Λ K fuel (vs40 l h0 st r e n (IntKind.i64.wrap (i + 1))) else none else none else none else none else K (.exit 0) (vs40 l h0 st r e n i) := by kernel_rfl
noncomputable def Λ40 : Lam AV := fun cur vs K =>
  match cur, vs with
  | 0, [.one (.sl false (.pair (.int .i64) (.pair (.int .i64) (.int .i64))) none l), .one (.sl false (.int .i64) none h0), .one (.sl false (.int .i64) none st), .one (.bool r), .one (.int .i64 e), .one (.sl false (.int .i64) none st2), .one (.int .i64 n), .one (.int .i64 0)] =>
    bif decide (n = st.length) && (decide (n ≤ 9223372036854775807) && (@decide (st2 = st) (Classical.propDecidable _) && st.all (fun k => inB k l.length))) then
      (bif decide (idxN (fun i => badI l h0 st i) (st.length) 0 < 0) then K (.exit 0) (vs40 l h0 st r e n n) else K .ret (vs40 l h0 st false 0 n (idxN (fun i => badI l h0 st i) (st.length) 0)))
    else none
  | _, _ => none
theorem loop40 : LoopP tb Γ39 Λ40 ⟨48, 0, [(0, live40)]⟩ (loop1 F40) := by
  intro vs K out h
  have hcur : (loop1 F40).1 = 0 := by kernel_rfl
  rw [hcur] at h ⊢
  unfold Λ40 at h
  split at h
  · rename_i l h0 st r e st2 n _
    cases hc : (decide (n = st.length) && (decide (n ≤ 9223372036854775807) && (@decide (st2 = st) (Classical.propDecidable _) && st.all (fun k => inB k l.length)))) with
    | false => rw [hc] at h; cases h
    | true =>
      rw [hc] at h
      simp only [cond_true] at h
      rw [Bool.and_eq_true, Bool.and_eq_true] at hc
      obtain ⟨h1, h2, hall⟩ := hc
      have h1 := of_decide_eq_true h1
      have hmax := of_decide_eq_true h2
      rw [Bool.and_eq_true] at hall
      obtain ⟨hst, hall⟩ := hall
      obtain rfl := (@of_decide_eq_true _ (Classical.propDecidable _) hst).symm
      subst h1
      refine findN (ok := fun i => inB i st.length && (cA40 st i && ((cA40 st i || !cH40 h0 st i) && (cF40 l st i || !cH40 h0 st i)))) (ans := fun i => badI l h0 st i) (F := fun fuel i => lo40 Λ40 K fuel (vs40 l h0 st r e (st.length) i)) (Kx := fun i => K (.exit 0) (vs40 l h0 st r e (st.length) i)) (Kr := fun i => K .ret (vs40 l h0 st false 0 (st.length) i)) hmax
        (fun fuel i => (step40 l h0 st r e (st.length) i Λ40 K fuel).trans ?_) (fun j hj => ?_) h
      · cases inB i st.length <;> cases cA40 st i <;> cases cF40 l st i <;> cases cH40 h0 st i <;> rfl
      · rw [inB_lt hj]
        have e1 : cA40 st j = true := by unfold cA40; rw [decide_eq_true (show (0 : Int) ≤ j by omega), decide_eq_true (show (j : Int) ≤ st.length by omega)]; rfl
        have e2 : cF40 l st j = true := by
          unfold cF40
          rw [show inB (eA st j) l.length = true from List.all_eq_true.1 hall _ (by unfold eA; simp [hj])]
          exact List.all_eq_true.2 fun x hx => List.all_eq_true.1 hall x (List.mem_of_mem_take hx)
        rw [e1, e2]; rfl
  · cases h
theorem r40 (l : List Term.D) (h st : List Int) : run Γ39 Λ40 [(0, live40)] F40 [.one (.sl false Term none l), .one (.sl false I none h), .one (.sl false I none st)] [] =
    bif (bif !placesR l h then true else !placesR l st) then some (rB false 1) else bif decide ((st.length : Int) = st.length) && (decide ((st.length : Int) ≤ 9223372036854775807) && (@decide (st = st) (Classical.propDecidable _) && st.all (fun k => inB k l.length))) then
      (bif decide (idxN (fun i => badI l h st i) st.length 0 < 0) then some (rB true 0) else some (rB false 0))
    else none := by kernel_rfl

end Go.AM.Seat
