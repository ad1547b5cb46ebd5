/- know.all. -/
import Derived.Test.YtnkdeglckmogcaaSeKL
set_option linter.unusedVariables false
set_option maxRecDepth 100000
namespace Go.AM.Seat
open Go Go.AM Go.Proofs
def Γ64 : Orc := orcL 24 [(N68, s68), (N63, s63)]
theorem Γ64ok : OrcOk Try.prog Γ64 := OrcOk.toL 24 (.cons g68 (.cons g63 (.nil _)))
abbrev live64 : List (Nat × Dir) := [(0, .keep), (2, .keep), (23, .keep), (24, .keep), (25, .keep)]
def vs64 (l : List Term.D) (us : List (List Int)) (s : Kn) (k : Int) : List AV :=
  [.one (.ptr 23 0), .one (.int .i64 k), .gho (obM 24 25 l us).ov, .gho (.arr false .bool s.1), .gho (.arr false I s.2)]
noncomputable def lk64 : Nat × Code := (loopsOf 0 (body F64)).headD (0, .skip)
noncomputable abbrev lo64 (Λ : Lam (AV × List AV)) (K : AE → List AV → Option (AV × List AV)) (fuel : Nat) (vs : List AV) : Option (AV × List AV) := loopN (aexec tb Γ64 Λ ⟨23, 3, [(0, live64)]⟩ lk64.2 0) 23 3 live64 K fuel vs
theorem step64 (l : List Term.D) (us : List (List Int)) (s : Kn) (k : Int) (Λ : Lam (AV × List AV)) (K : AE → List AV → Option (AV × List AV)) (fuel : Nat) : lo64 Λ K (fuel + 1) (vs64 l us s k) =
    bif decide (k < (s.2.length : Int)) then bif inB k s.2.length then bif next68ok l s.1 us (kA s.2 k) then bif okLearn s (nextL l s.1 us (kA s.2 k)) then
      lo64 Λ K fuel (vs64 l us (learnL s (nextL l s.1 us (kA s.2 k))) (IntKind.i64.wrap (k + 1)))
    else none else none else none else K (.exit 0) (vs64 l us s k) := by kernel_rfl
def allO (l : List Term.D) (us : List (List Int)) : Nat → Kn → Nat → Option Kn
  | 0, _, _ => none
  | f + 1, s, k => bif decide (k < s.2.length) then
      bif next68ok l s.1 us (kA s.2 k) && okLearn s (nextL l s.1 us (kA s.2 k)) then allO l us f (learnL s (nextL l s.1 us (kA s.2 k))) (k + 1) else none
    else bif kRoom s.2.length then some s else none
def Λ64 : Lam (AV × List AV) := fun cur vs K =>
  match cur, vs with
  | 0, [.one (.ptr 23 0), .one (.int .i64 0), .gho (.own [.sl false (.pair (.int .i64) (.pair (.int .i64) (.int .i64))) none l, .hot 24 none, .hot 25 none, .sl false (.sl (.int .i64)) none us]), .gho (.arr false .bool b), .gho (.arr false (.int .i64) c)] =>
    (match allO l us (b.length + 2) (b, c) 0 with
    | some s => K (.exit 0) (vs64 l us s s.2.length)
    | none => none)
  | _, _ => none
theorem loop64 : LoopP tb Γ64 Λ64 ⟨23, 3, [(0, live64)]⟩ lk64 := by
  intro vs K out h
  have hcur : lk64.1 = 0 := by kernel_rfl
  rw [hcur] at h ⊢
  unfold Λ64 at h
  split at h
  · rename_i l us b c _
    split at h
    · rename_i s' hs
      have key : ∀ (f k : Nat) (s : Kn), k ≤ s.2.length → allO l us f s k = some s' → ∃ fuel, lo64 Λ64 K fuel (vs64 l us s k) = some out := by
        intro f
        induction f with
        | zero => intro k s _ h; cases h
        | succ f ih =>
          intro k s hk hs
          rw [allO] at hs
          rcases Nat.lt_or_ge k s.2.length with hlt | hge
          · rw [decide_eq_true hlt] at hs
            cases h1 : next68ok l s.1 us (kA s.2 k) with
            | false => rw [h1] at hs; cases hs
            | true =>
              cases h2 : okLearn s (nextL l s.1 us (kA s.2 k)) with
              | false => rw [h1, h2] at hs; cases hs
              | true =>
                rw [h1, h2] at hs
                simp only [Bool.and_true, cond_true] at hs
                have hr : (s.2.length + (nextL l s.1 us (kA s.2 k)).length) * 8 ≤ 140737488355328 := by
                  simp only [okLearn, Bool.and_eq_true] at h2
                  exact of_decide_eq_true h2.2.1
                have hmono : s.2.length ≤ (learnL s (nextL l s.1 us (kA s.2 k))).2.length := by
                  have : ∀ (ls : List Int) (s : Kn), s.2.length ≤ (learnL s ls).2.length := by
                    intro ls
                    induction ls with
                    | nil => intro s; exact Nat.le_refl _
                    | cons x ls ih =>
                      intro s
                      refine Nat.le_trans ?_ (ih (learn1 s x))
                      unfold learn1
                      cases mAt s.1 x <;> simp
                  exact this _ s
                obtain ⟨fuel, hf⟩ := ih (k + 1) _ (by omega) hs
                refine ⟨fuel + 1, ?_⟩
                rw [step64, lt_dec hlt, inB_lt hlt, h1, h2, wrap64 (n := (k : Int) + 1) (by omega) (by omega)]
                exact hf
          · obtain rfl : k = s.2.length := by omega
            rw [decide_eq_false (Nat.lt_irrefl _)] at hs
            cases hr : kRoom s.2.length with
            | false => rw [hr] at hs; cases hs
            | true =>
              rw [hr] at hs
              cases hs
              exact ⟨1, by rw [step64, nlt_dec]; exact h⟩
      exact key _ 0 (b, c) (Nat.zero_le _) hs
    · cases h
  · cases h
theorem r64 (l : List Term.D) (us : List (List Int)) (s : Kn) : runIO Γ64 Λ64 3 [(0, live64)] F64 [.one (.ptr 23 0)] [obM 24 25 l us, .arr false .bool s.1, .arr false I s.2] 1 [] =
    match allO l us (s.1.length + 2) s 0 with
    | some s => some (.tup [], [obM 1 2 l us, .arr false .bool s.1, .arr false I s.2])
    | none => none := by kernel_rfl
def s64 : Sp := .io fun a p gs => match a, p, gs with
  | [.one (.ptr 0 0)], 1, [g1, g2, g3] => (match unM g1 g2 g3 with
    | some x => some ((allO x.1 x.2.1 (x.2.2.1.length + 2) x.2.2 0).isSome, .tup [], [obM 1 2 x.1 x.2.1, .arr false .bool ((allO x.1 x.2.1 (x.2.2.1.length + 2) x.2.2 0).getD x.2.2).1, .arr false I ((allO x.1 x.2.1 (x.2.2.1.length + 2) x.2.2 0).getD x.2.2).2])
    | none => none)
  | _, _, _ => none
theorem g64 : GoodS Try.prog N64 s64 := by
  refine GoodS.io (callable_of H64 (bd rfl) (by kernel_rfl)) fun a p gs r gs' hw1 hw2 h => ?_
  clear hw1 hw2
  split at h
  · rename_i g1 g2 g3
    split at h
    · rename_i x hx
      obtain ⟨rfl, rfl, rfl⟩ := unM_eq hx
      simp only [Option.some.injEq, Prod.mk.injEq] at h
      obtain ⟨h1, rfl, rfl⟩ := h
      obtain ⟨l, us, s⟩ := x
      have hrun := r64 l us s
      simp only at h1
      cases hs : allO l us (s.1.length + 2) s 0 with
      | none => rw [hs] at h1; cases h1
      | some s' =>
        rw [hs] at hrun
        exact goodIO1 Γ64ok H64 rfl Λ64 3 [(0, live64)] (oneLoop (p0 := lk64) (by kernel_rfl) loop64) [.one (.ptr 0 0)] [obM 1 2 l us, .arr false .bool s.1, .arr false I s.2] 1
          (ys := [.one (.ptr 23 0)]) (hs := [obM 24 25 l us, .arr false .bool s.1, .arr false I s.2]) rfl rfl rfl (Nat.le_add_left 1 2) (by show 1 ≤ _; decide) (Nat.le_refl 3) [] hrun (fun x hx => by cases hx; decide)
    · cases h
  · cases h
end Go.AM.Seat
