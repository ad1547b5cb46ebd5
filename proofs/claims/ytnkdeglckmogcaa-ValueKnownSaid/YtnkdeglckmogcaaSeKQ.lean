/- know: the definition's known, All, Knows, Shut, Is. -/
import Derived.Test.YtnkdeglckmogcaaSeKP
set_option linter.unusedVariables false
set_option maxRecDepth 100000
namespace Go.AM.Seat
open Go Go.AM Go.Proofs
def Γ76 : Orc := orc [(N77, s77), (N78, s78)]
abbrev live76 : List (Nat × List (Nat × Dir)) := [(0, [(0, .keep), (6, .keep), (5, .arr I)]), (2, [(0, .keep), (6, .keep), (14, .keep), (15, .keep), (5, .arr I)]), (4, [(0, .keep), (34, .keep), (35, .keep), (5, .arr I), (8, .arr I)])]
noncomputable def lk76 (k : Nat) : Nat × Code := (loopsOf 0 (body F76)).getD k (0, .skip)
def vo76 (l : List Term.D) (set : List Int) (more : Bool) : List AV := [.one (.sl false Term none l), .one (.bool more), .arr true I set]
def vi76 (l : List Term.D) (set : List Int) (more : Bool) (n i : Int) : List AV := [.one (.sl false Term none l), .one (.bool more), .one (.int .i64 n), .one (.int .i64 i), .arr true I set]
def vl76 (l : List Term.D) (set out : List Int) (n i : Int) : List AV := [.one (.sl false Term none l), .one (.int .i64 n), .one (.int .i64 i), .arr true I set, .arr true I out]
noncomputable abbrev lo76 (k c : Nat) (Λ : Lam AV) (K : AE → List AV → Option AV) (fuel : Nat) (vs : List AV) : Option AV := loopN (aexec tb Γ76 Λ ⟨47, 0, live76⟩ (lk76 k).2 c) 47 0 (Lay.get ⟨47, 0, live76⟩ c) K fuel vs
def nRoom (n : Nat) : Bool := decide (n * 8 ≤ 140737488355328)
def pass1 (l : List Term.D) (s : List Int × Bool) (j : Int) : List Int × Bool := bif (bif !inL s.1 j then folR l s.1 j else false) then (s.1 ++ [j], true) else s
def passR (l : List Term.D) : Nat → Nat → List Int × Bool → List Int × Bool
  | 0, _, s => s
  | m + 1, j, s => passR l m (j + 1) (pass1 l s j)
def filN (set : List Int) : Nat → Nat → List Int → List Int
  | 0, _, o => o
  | m + 1, j, o => filN set m (j + 1) (bif inL set j then o ++ [(j : Int)] else o)
def okSet (l : List Term.D) (set : List Int) : Bool := (set.all fun k => inB k l.length) && decide (set.length + l.length ≤ 1000000)
def outR (l : List Term.D) : Nat → List Int → Option (List Int)
  | 0, _ => none
  | f + 1, set => bif okSet l set then bif (passR l l.length 0 (set, false)).2 then outR l f (passR l l.length 0 (set, false)).1 else some (passR l l.length 0 (set, false)).1 else none
def Λ76 : Lam AV := fun cur vs K =>
  match cur, vs with
  | 0, [.one (.sl false (.pair (.int .i64) (.pair (.int .i64) (.int .i64))) none l), .one (.bool true), .arr true (.int .i64) set] =>
    (match outR l (l.length + 2) set with
    | some s => K (.exit 0) (vo76 l s false)
    | none => none)
  | 2, [.one (.sl false (.pair (.int .i64) (.pair (.int .i64) (.int .i64))) none l), .one (.bool more), .one (.int .i64 n), .one (.int .i64 0), .arr true (.int .i64) set] =>
    bif decide (n = l.length) && okSet l set then K (.exit 2) (vi76 l (passR l l.length 0 (set, more)).1 (passR l l.length 0 (set, more)).2 n n) else none
  | 4, [.one (.sl false (.pair (.int .i64) (.pair (.int .i64) (.int .i64))) none l), .one (.int .i64 n), .one (.int .i64 0), .arr true (.int .i64) set, .arr true (.int .i64) []] =>
    bif decide (n = l.length) && decide (l.length ≤ 1000000) then K (.exit 4) (vl76 l set (filN set l.length 0 []) n n) else none
  | _, _ => none
theorem stepI76 (l : List Term.D) (set : List Int) (more : Bool) (n i : Int) (Λ : Lam AV) (K : AE → List AV → Option AV) (fuel : Nat) : lo76 1 2 Λ K (fuel + 1) (vi76 l set more n i) =
    bif decide (i < n) then bif (inB i l.length && set.all fun k => inB k l.length) || !boolBeq (!inL set i) true then
      bif (bif !inL set i then folR l set i else false) then bif nRoom (set.length + [i].length) then lo76 1 2 Λ K fuel (vi76 l (set ++ [i]) true n (IntKind.i64.wrap (i + 1))) else none
      else lo76 1 2 Λ K fuel (vi76 l set more n (IntKind.i64.wrap (i + 1)))
    else none else K (.exit 2) (vi76 l set more n i) := by kernel_rfl
theorem stepL76 (l : List Term.D) (set out : List Int) (n i : Int) (Λ : Lam AV) (K : AE → List AV → Option AV) (fuel : Nat) : lo76 2 4 Λ K (fuel + 1) (vl76 l set out n i) =
    bif decide (i < n) then bif inL set i then bif nRoom (out.length + [i].length) then lo76 2 4 Λ K fuel (vl76 l set (out ++ [i]) n (IntKind.i64.wrap (i + 1))) else none
      else lo76 2 4 Λ K fuel (vl76 l set out n (IntKind.i64.wrap (i + 1))) else K (.exit 4) (vl76 l set out n i) := by kernel_rfl
theorem stopO76 (l : List Term.D) (set : List Int) (Λ : Lam AV) (K : AE → List AV → Option AV) (fuel : Nat) : lo76 0 0 Λ K (fuel + 1) (vo76 l set false) = K (.exit 0) (vo76 l set false) := by kernel_rfl
theorem stepO76 (l : List Term.D) (set : List Int) (K : AE → List AV → Option AV) (fuel : Nat) : lo76 0 0 Λ76 K (fuel + 1) (vo76 l set true) =
    bif decide ((l.length : Int) = l.length) && okSet l set then lo76 0 0 Λ76 K fuel (vo76 l (passR l l.length 0 (set, false)).1 (passR l l.length 0 (set, false)).2) else none := by kernel_rfl
theorem pass1_len (l : List Term.D) (s : List Int × Bool) (j : Int) : (pass1 l s j).1.length ≤ s.1.length + 1 := by
  unfold pass1
  cases (bif !inL s.1 j then folR l s.1 j else false) <;> simp
theorem pass1_in {l : List Term.D} {s : List Int × Bool} {j : Nat} (hj : j < l.length) (h : (s.1.all fun k => inB k l.length) = true) : ((pass1 l s j).1.all fun k => inB k l.length) = true := by
  unfold pass1
  cases (bif !inL s.1 j then folR l s.1 j else false) with
  | true => simp only [cond_true, List.all_append, h, List.all_cons, List.all_nil, Bool.and_true, Bool.true_and]; exact inB_lt hj
  | false => exact h
theorem loopI76 : LoopP tb Γ76 Λ76 ⟨47, 0, live76⟩ (lk76 1) := by
  intro vs K out h
  have hcur : (lk76 1).1 = 2 := by kernel_rfl
  rw [hcur] at h ⊢
  unfold Λ76 at h
  split at h
  · exact absurd (show (2 : Nat) = 0 by assumption) (by decide)
  · rename_i l more n set _
    cases hc : (decide (n = l.length) && okSet l set) with
    | false => rw [hc] at h; cases h
    | true =>
      rw [hc] at h
      simp only [cond_true] at h
      simp only [Bool.and_eq_true, okSet, decide_eq_true_eq] at hc
      obtain ⟨rfl, hall, hlen⟩ := hc
      have key : ∀ (m j : Nat) (s : List Int × Bool), j + m = l.length → s.1.length ≤ set.length + j → (s.1.all fun k => inB k l.length) = true →
          K (.exit 2) (vi76 l (passR l m j s).1 (passR l m j s).2 l.length l.length) = some out → ∃ fuel, lo76 1 2 Λ76 K fuel (vi76 l s.1 s.2 l.length j) = some out := by
        intro m
        induction m with
        | zero =>
          intro j s hj _ _ h
          obtain rfl : j = l.length := by omega
          exact ⟨1, by rw [stepI76, nlt_dec]; exact h⟩
        | succ m ih =>
          intro j s hj hl hs h
          have hlt : j < l.length := by omega
          obtain ⟨fuel, hf⟩ := ih (j + 1) (pass1 l s j) (by omega) (by have := pass1_len l s j; omega) (pass1_in hlt hs) h
          refine ⟨fuel + 1, ?_⟩
          rw [stepI76, lt_dec hlt, inB_lt hlt, hs, wrap64 (n := (j : Int) + 1) (by omega) (by omega)]
          simp only [Bool.and_self, Bool.true_or, cond_true]
          unfold pass1 at hf
          cases hx : (bif !inL s.1 j then folR l s.1 j else false) with
          | true =>
            rw [hx] at hf
            rw [show nRoom (s.1.length + [(j : Int)].length) = true from decide_eq_true (by simp; omega)]
            exact hf
          | false => rw [hx] at hf; exact hf
      exact key l.length 0 (set, more) (by omega) (by show set.length ≤ _; omega) hall h
  · exact absurd (show (2 : Nat) = 4 by assumption) (by decide)
  · cases h
theorem loopL76 : LoopP tb Γ76 Λ76 ⟨47, 0, live76⟩ (lk76 2) := by
  intro vs K out h
  have hcur : (lk76 2).1 = 4 := by kernel_rfl
  rw [hcur] at h ⊢
  unfold Λ76 at h
  split at h
  · exact absurd (show (4 : Nat) = 0 by assumption) (by decide)
  · exact absurd (show (4 : Nat) = 2 by assumption) (by decide)
  · rename_i l n set _
    cases hc : (decide (n = l.length) && decide (l.length ≤ 1000000)) with
    | false => rw [hc] at h; cases h
    | true =>
      rw [hc] at h
      simp only [cond_true] at h
      simp only [Bool.and_eq_true, decide_eq_true_eq] at hc
      obtain ⟨rfl, hlen⟩ := hc
      have key : ∀ (m j : Nat) (o : List Int), j + m = l.length → o.length ≤ j → K (.exit 4) (vl76 l set (filN set m j o) l.length l.length) = some out → ∃ fuel, lo76 2 4 Λ76 K fuel (vl76 l set o l.length j) = some out := by
        intro m
        induction m with
        | zero =>
          intro j o hj _ h
          obtain rfl : j = l.length := by omega
          exact ⟨1, by rw [stepL76, nlt_dec]; exact h⟩
        | succ m ih =>
          intro j o hj hl h
          have hlt : j < l.length := by omega
          rw [filN] at h
          cases hx : inL set j with
          | true =>
            rw [hx] at h
            obtain ⟨fuel, hf⟩ := ih (j + 1) _ (by omega) (by simp; omega) h
            exact ⟨fuel + 1, by rw [stepL76, lt_dec hlt, hx, show nRoom (o.length + [(j : Int)].length) = true from decide_eq_true (by simp; omega), wrap64 (n := (j : Int) + 1) (by omega) (by omega)]; exact hf⟩
          | false =>
            rw [hx] at h
            obtain ⟨fuel, hf⟩ := ih (j + 1) _ (by omega) (by simp only [cond_false]; omega) h
            exact ⟨fuel + 1, by rw [stepL76, lt_dec hlt, hx, wrap64 (n := (j : Int) + 1) (by omega) (by omega)]; exact hf⟩
      exact key l.length 0 [] (by omega) (Nat.le_refl _) h
  · cases h
theorem loopO76 : LoopP tb Γ76 Λ76 ⟨47, 0, live76⟩ (lk76 0) := by
  intro vs K out h
  have hcur : (lk76 0).1 = 0 := by kernel_rfl
  rw [hcur] at h ⊢
  unfold Λ76 at h
  split at h
  · rename_i l set _
    split at h
    · rename_i s' hs
      have key : ∀ (f : Nat) (set : List Int), outR l f set = some s' → ∃ fuel, lo76 0 0 Λ76 K fuel (vo76 l set true) = some out := by
        intro f
        induction f with
        | zero => intro set h; cases h
        | succ f ih =>
          intro set hs
          rw [outR] at hs
          cases ho : okSet l set with
          | false => rw [ho] at hs; cases hs
          | true =>
            rw [ho] at hs
            simp only [cond_true] at hs
            cases hm : (passR l l.length 0 (set, false)).2 with
            | true =>
              rw [hm] at hs
              obtain ⟨fuel, hf⟩ := ih _ hs
              exact ⟨fuel + 1, by rw [stepO76, decide_eq_true rfl, ho, hm]; exact hf⟩
            | false =>
              rw [hm] at hs
              cases hs
              exact ⟨2, by rw [stepO76, decide_eq_true rfl, ho, hm]; exact (stopO76 l _ Λ76 K 0).trans h⟩
      exact key _ set hs
    · cases h
  · exact absurd (show (0 : Nat) = 2 by assumption) (by decide)
  · exact absurd (show (0 : Nat) = 4 by assumption) (by decide)
  · cases h
theorem r76 (l : List Term.D) (h : List Int) : run Γ76 Λ76 live76 F76 [.one (.sl false Term none l), .one (.sl false I none h)] [.sl true I] =
    bif nRoom h.length then (match outR l (l.length + 2) h with
      | some s => bif decide ((l.length : Int) = l.length) && decide (l.length ≤ 1000000) then some (.one (.sl true I none (filN s l.length 0 []))) else none
      | none => none) else none := by kernel_rfl
def knownR (l : List Term.D) (h : List Int) : List Int := filN ((outR l (l.length + 2) h).getD []) l.length 0 []
def s76 : Sp := .fn [.v (.sl Term), .v (.sl I)] fun x => (decide (x.1.length ≤ 1000000) && (nRoom x.2.length && (outR x.1 (x.1.length + 2) x.2).isSome), .one (.sl true I none (knownR x.1 x.2)))
theorem threeL {ρ : Type} [Same ρ] {Γ : Orc} {Λ : Lam ρ} {ms : Lay} {c : Code} {p0 p1 p2 : Nat × Code} (h : loopsOf 0 c = [p0, p1, p2]) (h0 : LoopP tb Γ Λ ms p0) (h1 : LoopP tb Γ Λ ms p1) (h2 : LoopP tb Γ Λ ms p2) : ∀ p ∈ loopsOf 0 c, LoopP tb Γ Λ ms p := by
  rw [h]; intro p hp
  rcases List.mem_cons.1 hp with rfl | hp
  · exact h0
  · rcases List.mem_cons.1 hp with rfl | hp
    · exact h1
    · rw [List.mem_singleton.1 hp]; exact h2
theorem g76 : GoodS Try.prog N76 s76 := by
  refine good (.cons g77 (.cons g78 (.nil _))) H76 rfl (by kernel_rfl) Λ76 live76 (threeL (p0 := lk76 0) (p1 := lk76 1) (p2 := lk76 2) (by kernel_rfl) loopO76 loopI76 loopL76) [.v (.sl Term), .v (.sl I)] (by decide) [.sl true I] _ fun x r hw h => ?_
  obtain ⟨l, h'⟩ := x
  simp only [Prod.mk.injEq, Bool.and_eq_true] at h
  obtain ⟨⟨h1, h2, h3⟩, rfl⟩ := h
  refine (r76 l h').trans ?_
  rw [h2, h1, decide_eq_true rfl]
  unfold knownR
  cases ho : outR l (l.length + 2) h' with
  | none => rw [ho] at h3; cases h3
  | some s => rfl
end Go.AM.Seat
