/- The seat: slices.IndexFunc and slices.ContainsFunc at []int, with whatever closure only reads. -/
import Derived.Test.YtnkdeglckmogcaaSeT3
set_option linter.unusedVariables false
set_option linter.unusedSimpArgs false
set_option maxRecDepth 100000
namespace Go.AM.Seat
open Go Go.AM Go.Proofs

/-- Where it may be asked, and what it answers. -/
abbrev CPr := (Int → Bool) × (Int → Bool)
def a101 (f : Bool) (nl : Option Bool) (xs : List Int) (c : AV) (r n i : Int) : List AV := [.one (.sl f I nl xs), c, .one (.int .i64 r), .one (.int .i64 n), .one (.int .i64 i)]
def ΛC (cl : AV → Option CPr) : Lam AV := fun cur vs K =>
  match cur, vs with
  | 0, [.one (.sl f (.int .i64) nl xs), c, .one (.int .i64 r), .one (.int .i64 n), .one (.int .i64 0)] =>
    match cl c with
    | some q =>
      bif decide (n = xs.length) && decide (n ≤ 9223372036854775807) && xs.all q.1 then
        (bif decide (idxFrom q.2 xs 0 < 0) then K (.exit 0) (a101 f nl xs c r n n) else K .ret (a101 f nl xs c (idxFrom q.2 xs 0) n (idxFrom q.2 xs 0)))
      else none
    | none => none
  | _, _ => none
noncomputable abbrev lo101 (Γ : Orc) (Λ : Lam AV) (K : AE → List AV → Option AV) (fuel : Nat) (vs : List AV) : Option AV :=
  loopN (aexec tb Γ Λ ⟨19, 0, live101⟩ (loop1 F101).2 0) 19 0 [(0, .keep), (1, .keep), (4, .keep), (7, .keep), (8, .keep)] K fuel vs
def iX (l : List Int) (i : Int) : Int := l.getD i.toNat (Ty.int IntKind.i64).dflt
def StepC (Γ : Orc) (c : AV) (q : CPr) : Prop := ∀ (Λ : Lam AV) (f : Bool) (nl : Option Bool) (xs : List Int) (r n i : Int) (K : AE → List AV → Option AV) (fuel : Nat),
  lo101 Γ Λ K (fuel + 1) (a101 f nl xs c r n i) =
    bif decide (i < n) then bif inB i xs.length then bif q.1 (iX xs i) then bif q.2 (iX xs i) then K .ret (a101 f nl xs c i n i) else lo101 Γ Λ K fuel (a101 f nl xs c r n (IntKind.i64.wrap (i + 1))) else none else none
    else K (.exit 0) (a101 f nl xs c r n i)
theorem loopC {Γ : Orc} {cl : AV → Option CPr} (hs : ∀ c q, cl c = some q → StepC Γ c q) : LoopP tb Γ (ΛC cl) ⟨19, 0, live101⟩ (loop1 F101) := by
  intro vs K out h
  have hcur : (loop1 F101).1 = 0 := by kernel_rfl
  rw [hcur] at h ⊢
  unfold ΛC at h
  split at h
  · rename_i f nl xs c r n _
    split at h
    · rename_i q hq
      have hst := hs c q hq
      cases hc : (decide (n = xs.length) && decide (n ≤ 9223372036854775807) && xs.all q.1) with
      | false => rw [hc] at h; cases h
      | true =>
        rw [hc] at h
        simp only [cond_true] at h
        simp only [Bool.and_eq_true, decide_eq_true_eq] at hc
        obtain ⟨⟨rfl, hmax⟩, hall⟩ := hc
        have key : ∀ (m j : Nat), j + m = xs.length →
            (bif decide (idxFrom q.2 (xs.drop j) j < 0) then K (.exit 0) (a101 f nl xs c r xs.length xs.length) else K .ret (a101 f nl xs c (idxFrom q.2 (xs.drop j) j) xs.length (idxFrom q.2 (xs.drop j) j))) = some out →
            ∃ fuel, lo101 Γ (ΛC cl) K fuel (a101 f nl xs c r xs.length j) = some out := by
          intro m
          induction m with
          | zero =>
            intro j hj h
            obtain rfl : j = xs.length := by omega
            rw [List.drop_length] at h
            exact ⟨1, by rw [hst, nlt_dec]; exact h⟩
          | succ m ih =>
            intro j hj h
            have hlt : j < xs.length := by omega
            have hok : q.1 (iX xs j) = true := List.all_eq_true.1 hall _ (by unfold iX; simp [hlt])
            have hx : iX xs j = xs.getD j 0 := rfl
            rw [idxFrom_drop _ _ _ hlt] at h
            cases hp : q.2 (xs.getD j 0) with
            | true =>
              rw [hp] at h
              simp only [cond_true] at h
              rw [decide_eq_false (show ¬ ((j : Nat) : Int) < 0 by omega)] at h
              exact ⟨1, by rw [hst, lt_dec hlt, inB_lt hlt, hok, hx, hp]; exact h⟩
            | false =>
              rw [hp] at h
              obtain ⟨fuel, hf⟩ := ih (j + 1) (by omega) h
              refine ⟨fuel + 1, ?_⟩
              rw [hst, lt_dec hlt, inB_lt hlt, hok, hx, hp, wrap64 (n := (j : Int) + 1) (by omega) (by omega)]
              exact hf
        exact key xs.length 0 (by omega) h
    · cases h
  · cases h
def RunC (Γ : Orc) (cl : AV → Option CPr) (c : AV) (q : CPr) : Prop := ∀ (xs : List Int), run Γ (ΛC cl) live101 F101 [.one (.sl false I none xs), c] [] =
  bif decide ((xs.length : Int) = xs.length) && decide ((xs.length : Int) ≤ 9223372036854775807) && xs.all q.1 then
    bif decide (idxFrom q.2 xs 0 < 0) then some (.one (.int .i64 (-1))) else some (.one (.int .i64 (idxFrom q.2 xs 0)))
  else none
def s101c (cl : AV → Option CPr) : Sp := .fn [.v (.sl I), .raw] fun x => match cl x.2 with
  | some q => (x.1.all q.1, .one (.int .i64 (idxFrom q.2 x.1 0)))
  | none => (false, AV.junk)
theorem g101c {Γ : Orc} {cl : AV → Option CPr} (hΓ : OrcOk Try.prog Γ) (hlo : Γ.lo = none) (hs : ∀ c q, cl c = some q → StepC Γ c q) (hr : ∀ c q, cl c = some q → RunC Γ cl c q) : GoodS Try.prog N101 (s101c cl) := by
  refine good hΓ H101 rfl (by kernel_rfl) (ΛC cl) live101 (oneLoop (p0 := loop1 F101) (by kernel_rfl) (loopC hs)) [.v (.sl I), .raw] (by decide) [] _ (fun x r hw h => ?_) (lo_none hlo)
  obtain ⟨xs, c⟩ := x
  simp only at h
  split at h
  · rename_i q hq
    simp only [Prod.mk.injEq] at h
    obtain ⟨h1, rfl⟩ := h
    refine (hr c q hq xs).trans ?_
    have hmax : (xs.length : Int) ≤ 9223372036854775807 := by have : xs.length ≤ 9223372036854775807 := hw.1.1; omega
    rw [decide_eq_true hmax, h1, decide_eq_true rfl]
    simp only [Bool.and_self, cond_true]
    rcases idxFrom_ge q.2 xs 0 with h | h
    · rw [h]; rfl
    · rw [decide_eq_false (show ¬ idxFrom q.2 xs 0 < 0 by omega)]; rfl
  · cases h
def RunC2 (cl : AV → Option CPr) (c : AV) (q : CPr) : Prop := ∀ (xs : List Int), run (orc [(N101, s101c cl)]) noL [] F67 [.one (.sl false I none xs), c] [] =
  bif xs.all q.1 then some (.one (.bool (decide (idxFrom q.2 xs 0 ≥ 0)))) else none
def s67c (cl : AV → Option CPr) : Sp := .fn [.v (.sl I), .raw] fun x => match cl x.2 with
  | some q => (x.1.all q.1, .one (.bool (x.1.any q.2)))
  | none => (false, AV.junk)
theorem g67c {cl : AV → Option CPr} (h1 : GoodS Try.prog N101 (s101c cl)) (hr : ∀ c q, cl c = some q → RunC2 cl c q) : GoodS Try.prog N67 (s67c cl) := by
  refine good (.cons h1 (.nil _)) H67 rfl (by kernel_rfl) noL [] (noLoops (by kernel_rfl)) [.v (.sl I), .raw] (by decide) [] _ fun x r hw h => ?_
  obtain ⟨xs, c⟩ := x
  simp only at h
  split at h
  · rename_i q hq
    simp only [Prod.mk.injEq] at h
    obtain ⟨h1, rfl⟩ := h
    refine (hr c q hq xs).trans ?_
    rw [h1, idx_any _ _ _ (Int.le_refl 0)]; rfl
  · cases h
end Go.AM.Seat
