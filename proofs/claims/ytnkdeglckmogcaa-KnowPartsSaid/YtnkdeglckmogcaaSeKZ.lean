/- the laws of know: KnowDoes. -/
import Derived.Test.YtnkdeglckmogcaaSeKV
set_option linter.unusedVariables false
set_option linter.unusedSimpArgs false
set_option maxRecDepth 100000
namespace Go.AM.Seat
open Go Go.AM Go.Proofs
noncomputable def Γ11 : Orc := orc [(N28, s28), (N29, s29), (N30, s30h), (N37, s30), (N32, s32), (N38, s32), (N33, s33), (N39, s33), (N34, s34), (N40, s34), (N31, s31k)]
abbrev live11 : List (Nat × Dir) := [(1, .keep), (9, .keep), (10, .keep), (11, .keep), (27, .keep), (38, .keep), (130, .keep), (131, .keep), (150, .keep)]
def vs11 (h a : List Int) (up ok : Bool) (n i : Int) : List AV :=
  [.one (.sl false I none h), .one (.bool up), .one (.hot 38 none), .one (.hot 150 none), .one (.bool ok), .arr true I h, .one (.int .i64 n), .one (.int .i64 i), .gho (AV.arr true I a).ov]
noncomputable abbrev lo11 (Λ : Lam AV) (K : AE → List AV → Option AV) (fuel : Nat) (vs : List AV) : Option AV := loopN (aexec tb Γ11 Λ ⟨150, 1, [(0, live11)]⟩ (loop1 F11).2 0) 150 1 live11 K fuel vs
def inc1 (a : List Int) (i : Int) : List Int := a.set i.toNat (IntKind.i64.wrap (kA a i + 1))
theorem step11 (h a : List Int) (up ok : Bool) (n i : Int) (Λ : Lam AV) (K : AE → List AV → Option AV) (fuel : Nat) : lo11 Λ K (fuel + 1) (vs11 h a up ok n i) =
    bif decide (i < n) then bif inB i a.length then bif inB i a.length then lo11 Λ K fuel (vs11 h (inc1 a i) up ok n (IntKind.i64.wrap (i + 1))) else none else none else K (.exit 0) (vs11 h a up ok n i) := by kernel_rfl
def incR : Nat → Nat → List Int → List Int
  | 0, _, a => a
  | m + 1, j, a => incR m (j + 1) (inc1 a j)
noncomputable def Λ11 : Lam AV := fun cur vs K =>
  match cur, vs with
  | 0, [.one (.sl false (.int .i64) none h), .one (.bool up), .one (.hot 38 none), .one (.hot 150 none), .one (.bool ok), .arr true (.int .i64) h', .one (.int .i64 n), .one (.int .i64 0), .gho (.arr true (.int .i64) a)] =>
    bif decide (n = a.length) && (decide (a.length ≤ 1000000) && @decide (h' = h) (Classical.propDecidable _)) then K (.exit 0) (vs11 h (incR a.length 0 a) up ok n n) else none
  | _, _ => none
theorem loop11 : LoopP tb Γ11 Λ11 ⟨150, 1, [(0, live11)]⟩ (loop1 F11) := by
  intro vs K out h
  have hcur : (loop1 F11).1 = 0 := by kernel_rfl
  rw [hcur] at h ⊢
  unfold Λ11 at h
  split at h
  · rename_i h0 up ok h' n a _
    cases hc : (decide (n = a.length) && (decide (a.length ≤ 1000000) && @decide (h' = h0) (Classical.propDecidable _))) with
    | false => rw [hc] at h; cases h
    | true =>
      rw [hc] at h
      simp only [cond_true] at h
      rw [Bool.and_eq_true, Bool.and_eq_true] at hc
      obtain ⟨h1, h2, h3⟩ := hc
      have h1 := of_decide_eq_true h1
      have h2 := of_decide_eq_true h2
      obtain rfl := (@of_decide_eq_true _ (Classical.propDecidable _) h3).symm
      subst h1
      have key : ∀ (m j : Nat) (a' : List Int), j + m = a.length → a'.length = a.length → K (.exit 0) (vs11 h0 (incR m j a') up ok a.length a.length) = some out → ∃ fuel, lo11 Λ11 K fuel (vs11 h0 a' up ok a.length j) = some out := by
        intro m
        induction m with
        | zero =>
          intro j a' hj _ h
          obtain rfl : j = a.length := by omega
          exact ⟨1, by rw [step11, nlt_dec]; exact h⟩
        | succ m ih =>
          intro j a' hj hl h
          have hlt : j < a.length := by omega
          obtain ⟨fuel, hf⟩ := ih (j + 1) (inc1 a' j) (by omega) (by unfold inc1; rw [List.length_set]; exact hl) h
          exact ⟨fuel + 1, by rw [step11, lt_dec hlt, inB_lt (by omega), wrap64 (n := (j : Int) + 1) (by omega) (by omega)]; exact hf⟩
      exact key a.length 0 a (by omega) rfl h
  · cases h
noncomputable def okl11 (l : List Term.D) (h st : List Int) (i : Int) : Bool :=
  bif (bif (bif (bif (bif (bif (bif @decide ((allK l h).1 = (allK l h).1) (Classical.propDecidable _) then (allK l h).2 == (allK l h).2 else false) then (knowsK l h i).1 == (knowsK l h i).1 else false) then (knowsK l h i).2 == (knowsK l h i).2 else false)
    then (shutK l st).1 == (shutK l st).1 else false) then (shutK l st).2 == (shutK l st).2 else false) then (isK l h st).1 == (isK l h st).1 else false) then (isK l h st).2 == (isK l h st).2 else false
noncomputable def cond11 (l : List Term.D) (h : List Int) : Bool := decide (((allK l h).1.length : Int) = ((allK l h).1.length : Int)) && (decide ((allK l h).1.length ≤ 1000000) && @decide (h = h) (Classical.propDecidable _))
theorem r11 (l : List Term.D) (h st : List Int) (i : Int) : runG Γ11 Λ11 1 [(0, live11)] F11 [.one (.sl false Term none l), .one (.sl false I none h), .one (.sl false I none st), .one (.int .i64 i)] [] =
    bif !fewK l [h, st] then some (.one (.bool true)) else bif nRoom h.length then bif cond11 l h then
      some (.one (.bool (bif okl11 l h st i then @decide (h = h) (Classical.propDecidable _) else false))) else none else none := by kernel_rfl
theorem few_len {l : List Term.D} {xs : List (List Int)} (h : fewK l xs = true) : ∀ x ∈ xs, x.length ≤ 65546 := by
  intro x hx
  unfold fewK at h
  cases ha : xs.any (fun x => !fewI x) with
  | true => rw [ha] at h; cases h
  | false =>
    have hf : fewI x = true := by
      have h9 := List.any_eq_false.1 ha x hx
      cases hb : fewI x with
      | true => rfl
      | false => rw [hb] at h9; exact absurd rfl h9
    unfold fewI at hf
    cases h1 : decide ((x.length : Int) ≤ 60) with
    | true => have := of_decide_eq_true h1; omega
    | false =>
      rw [h1] at hf
      cases h2 : decide ((x.length : Int) > 65536) with
      | false => rw [h2] at hf; cases hf
      | true =>
        rw [h2] at hf
        simp only [cond_false, cond_true, decide_eq_true_eq] at hf
        omega
theorem good11 : ∀ x, Good Try.prog N11 (encA [.v (.sl Term), .v (.sl I), .v (.sl I), .v I] x) (.one (.bool true)) := by
  intro x
  have g : GoodS Try.prog N11 (.fn [.v (.sl Term), .v (.sl I), .v (.sl I), .v I] fun _ => (true, .one (.bool true))) := by
    refine goodG (.cons g28 (.cons g29 (.cons g30h (.cons g37 (.cons g32 (.cons g38 (.cons g33 (.cons g39 (.cons g34 (.cons g40 (.cons g31k (.nil _)))))))))))) H11 rfl (by kernel_rfl) Λ11 1 [(0, live11)] (oneLoop (p0 := loop1 F11) (by kernel_rfl) loop11) [.v (.sl Term), .v (.sl I), .v (.sl I), .v I] (by decide) [] _ fun x r hw e => ?_
    obtain ⟨l, h, st, i⟩ := x
    cases e
    refine (r11 l h st i).trans ?_
    cases hf : fewK l [h, st] with
    | false => rfl
    | true =>
      have hl := few_len hf h (by simp)
      have hal := allK_len l h
      have h1 : cond11 l h = true := by
        unfold cond11
        rw [decide_eq_true rfl, decide_eq_true (show (allK l h).1.length ≤ 1000000 by omega), @decide_eq_true _ (Classical.propDecidable _) rfl]; rfl
      have h2 : okl11 l h st i = true := by
        unfold okl11
        rw [@decide_eq_true ((allK l h).1 = (allK l h).1) (Classical.propDecidable _) rfl]
        simp
      rw [show nRoom h.length = true from decide_eq_true (by omega), h1, h2, @decide_eq_true (h = h) (Classical.propDecidable _) rfl]; rfl
  exact g.2.1 _ _ (by kernel_rfl)
end Go.AM.Seat
