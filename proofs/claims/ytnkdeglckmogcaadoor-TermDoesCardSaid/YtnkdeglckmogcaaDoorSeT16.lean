/- The seat: contracts: lists of terms that are the same. -/
import Derived.Test.YtnkdeglckmogcaaDoorSeT9
set_option linter.unusedVariables false
set_option maxRecDepth 100000
namespace Go.AM.Seat
open Go Go.AM Go.Proofs

/-! ### Same -/
abbrev live530 : List (Nat × Dir) := [(0, .keep), (1, .keep), (4, .keep), (12, .keep), (13, .keep)]
def vs530 (a b : List Term.D) (r : Bool) (n i : Int) : List AV :=
  [.one (.sl false Term none a), .one (.sl false Term none b), .one (.bool r), .one (.int .i64 n), .one (.int .i64 i)]
def Λ530 : Lam AV := fun cur vs K =>
  match cur, vs with
  | 0, [.one (.sl false (.pair (.int .i64) (.pair (.int .i64) (.int .i64))) none a), .one (.sl false (.pair (.int .i64) (.pair (.int .i64) (.int .i64))) none b), .one (.bool false), .one (.int .i64 n), .one (.int .i64 0)] =>
    bif decide (n = a.length) && decide (n ≤ 9223372036854775807) && decide (a.length = b.length) then
      bif eqGo a b then K (.exit 0) (vs530 a b false n n) else K .ret (vs530 a b false n (eqAt a b 0))
    else none
  | _, _ => none
theorem step530 (a b : List Term.D) (r : Bool) (n i : Int) (K : AE → List AV → Option AV) (fuel : Nat) :
    loopN (aexec tb (orc []) Λ530 ⟨26, 0, [(0, live530)]⟩ (loop1 F530).2 0) 26 0 live530 K (fuel + 1) (vs530 a b r n i) =
    bif decide (i < n) then
      bif inB i a.length then
        bif inB i b.length then
          bif !eqD Term (tAt a i) (tAt b i) then K .ret (vs530 a b false n i)
          else loopN (aexec tb (orc []) Λ530 ⟨26, 0, [(0, live530)]⟩ (loop1 F530).2 0) 26 0 live530 K fuel (vs530 a b r n (IntKind.i64.wrap (i + 1)))
        else none
      else none
    else K (.exit 0) (vs530 a b r n i) := by kernel_rfl
theorem loop530 : LoopP tb (orc []) Λ530 ⟨26, 0, [(0, live530)]⟩ (loop1 F530) := by
  intro vs K out h
  have hcur : (loop1 F530).1 = 0 := by kernel_rfl
  rw [hcur] at h ⊢
  unfold Λ530 at h
  split at h
  · rename_i a b n _
    cases hc : (decide (n = a.length) && decide (n ≤ 9223372036854775807) && decide (a.length = b.length)) with
    | false => rw [hc] at h; cases h
    | true =>
      rw [hc] at h
      simp only [cond_true] at h
      simp only [Bool.and_eq_true, decide_eq_true_eq] at hc
      obtain ⟨⟨rfl, hmax⟩, hl⟩ := hc
      refine upLoop (α := Unit) (n := a.length) (F := fun fuel _ i => loopN (aexec tb (orc []) Λ530 ⟨26, 0, [(0, live530)]⟩ (loop1 F530).2 0) 26 0 live530 K fuel (vs530 a b false a.length i))
        (G := fun j _ => bif eqGo (a.drop j) (b.drop j) then K (.exit 0) (vs530 a b false a.length a.length) else K .ret (vs530 a b false a.length (eqAt (a.drop j) (b.drop j) j)))
        (fun fuel _ => ?_) (fun _ j hj => ?_) a.length 0 () out (by omega) h
      · have e : eqGo (a.drop a.length) (b.drop a.length) = true := by simp [eqGo]
        simp only [step530, nlt_dec, cond_false, e, cond_true]
      · have hj' : j < b.length := by omega
        cases h1 : eqD Term (tAt a j) (tAt b j) with
        | false =>
          right; intro fuel
          simp only [step530, lt_dec hj, inB_lt hj, inB_lt hj', h1, cond_true, cond_false, tAt_drop hj, tAt_drop hj', eqGo, eqAt, Bool.not_false]
        | true =>
          left; refine ⟨(), fun fuel => ?_, ?_⟩
          · simp only [step530, lt_dec hj, inB_lt hj, inB_lt hj', h1, cond_true, cond_false, Bool.not_true]
            rw [wrap64 (by omega) (by omega)]; rfl
          · simp only [tAt_drop hj, tAt_drop hj', eqGo, eqAt, h1, cond_true]; rfl
  · cases h
theorem r530 (a b : List Term.D) : run (orc []) Λ530 [(0, live530)] F530 (encA [.v (.sl Term), .v (.sl Term)] (a, b)) [] =
    bif (a.length : Int) != b.length then ob false else
    bif decide ((a.length : Int) = a.length) && decide ((a.length : Int) ≤ 9223372036854775807) && decide (a.length = b.length) then
      bif eqGo a b then ob true else ob false
    else none := by kernel_rfl
def s530 : Sp := .fn [.v (.sl Term), .v (.sl Term)] fun x => (true, .one (.bool (sameL x.1 x.2)))
theorem g530 : GoodS Tryd.prog N530 s530 := by
  refine good (.nil _) H530 rfl (by kernel_rfl) Λ530 [(0, live530)] (oneLoop (p0 := loop1 F530) (by kernel_rfl) loop530) [.v (.sl Term), .v (.sl Term)] (by decide) [] _ fun x r hw h => ?_
  obtain ⟨a, b⟩ := x
  cases h
  refine (r530 a b).trans ?_
  show _ = ob (sameL a b)
  unfold sameL
  cases hl : (a.length : Int) != b.length with
  | true =>
    have hne : a ≠ b := fun e => by subst e; simp at hl
    rw [decide_eq_false hne]; rfl
  | false =>
    have hl : a.length = b.length := by simp at hl; omega
    rw [len_max hw.1.1, decide_eq_true hl]
    simp only [Bool.and_self, cond_true, cond_false]
    cases hq : eqGo a b with
    | true => rw [decide_eq_true ((eqGo_iff hl).1 hq)]; rfl
    | false => rw [decide_eq_false (fun e => by rw [(eqGo_iff hl).2 e] at hq; cases hq)]; rfl
def Γ516 : Orc := orc [(N530, s530)]
theorem r516 (a b : List Term.D) : run Γ516 noL [] F516 (encA [.v (.sl Term), .v (.sl Term)] (a, b)) [] = some (.one (.bool (sameL a b))) := by kernel_rfl
def s516 : Sp := .fn [.v (.sl Term), .v (.sl Term)] fun x => (true, .one (.bool (sameL x.1 x.2)))
theorem g516 : GoodS Tryd.prog N516 s516 := by
  refine good (.cons g530 (.nil _)) H516 rfl (by kernel_rfl) noL [] (noLoops (by kernel_rfl)) [.v (.sl Term), .v (.sl Term)] (by decide) [] _ fun x r hw h => ?_
  obtain ⟨a, b⟩ := x
  cases h
  exact r516 a b
end Go.AM.Seat
