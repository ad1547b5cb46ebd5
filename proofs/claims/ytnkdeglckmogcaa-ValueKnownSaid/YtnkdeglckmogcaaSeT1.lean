/- The seat: contracts: terms. -/
import Derived.Test.YtnkdeglckmogcaaSeG
set_option linter.unusedVariables false
set_option maxRecDepth 100000
namespace Go.AM.Seat
open Go Go.AM Go.Proofs

/-! ### term.parts -/
def partsL (t : Term.D) : List Int := bif t.1 == 2 then [t.2.1] else bif t.1 == 3 then [t.2.1] else bif t.1 == 4 then [t.2.1] else bif t.1 == 5 then [t.2.1, t.2.2] else []
theorem r74 (t : Term.D) : run (orc []) noL [] F74 (encA [.v Term] t) [.sl true I] =
    bif t.1 == 2 then some (.one (.sl true I none [t.2.1])) else bif t.1 == 3 then some (.one (.sl true I none [t.2.1])) else bif t.1 == 4 then some (.one (.sl true I none [t.2.1])) else
    bif t.1 == 5 then some (.one (.sl true I none [t.2.1, t.2.2])) else some (.one (.sl true I none [])) := by kernel_rfl
def s74 : Sp := .fn [.v Term] fun t => (true, .one (.sl true I none (partsL t)))
theorem g74 : GoodS Try.prog N74 s74 := by
  refine good (OrcOk.nil _) H74 rfl (by kernel_rfl) noL [] (noLoops (by kernel_rfl)) [.v Term] (by decide) [.sl true I] _ fun t r _ h => ?_
  cases h
  rw [r74, partsL]
  cases (t.1 == 2) <;> cases (t.1 == 3) <;> cases (t.1 == 4) <;> cases (t.1 == 5) <;> rfl

/-! ### term.may's closure -/
def badP (i p : Int) : Bool := bif decide (p < 0) then true else decide (p ≥ i)
theorem r121 (p i : Int) : run (orc []) noL [] F121 [.one (.int .i64 p), .one (.rp false I i 0)] [] = some (.one (.bool (badP i p))) := by kernel_rfl
def s121 : Sp := .fn [.v I, .raw] fun x => match x.2 with
  | .one (.rp false (.int .i64) i 0) => (true, .one (.bool (badP i x.1)))
  | _ => (false, AV.junk)
theorem g121 : GoodS Try.prog N121 s121 := by
  refine good (OrcOk.nil _) H121 rfl (by kernel_rfl) noL [] (noLoops (by kernel_rfl)) [.v I, .raw] (by decide) [] _ fun x r hw h => ?_
  obtain ⟨p, c⟩ := x
  simp only at h
  split at h
  · rename_i i
    cases h
    exact r121 p i
  · cases h

/-! ### slices.IndexFunc, slices.ContainsFunc, with that closure -/
def idxFrom (f : Int → Bool) : List Int → Int → Int
  | [], _ => -1
  | x :: xs, i => bif f x then i else idxFrom f xs (i + 1)
def cl (c : AV) : Option (Int → Bool) :=
  match c with
  | .one (.fn f [.ptrD false (.int .i64) i]) => bif Nat.beq f N121 then some (badP i) else none
  | _ => none
theorem cl_some {c : AV} {p : Int → Bool} (h : cl c = some p) : ∃ k, c = .one (.fn N121 [.ptrD false I k]) ∧ p = badP k := by
  unfold cl at h
  split at h
  · rename_i f k
    cases hf : Nat.beq f N121 with
    | false => rw [hf] at h; cases h
    | true =>
      rw [hf] at h
      cases h
      obtain rfl := Nat.eq_of_beq_eq_true hf
      exact ⟨k, rfl, rfl⟩
  · cases h
abbrev live101 : List (Nat × List (Nat × Dir)) := [(0, [(0, .keep), (1, .keep), (4, .keep), (7, .keep), (8, .keep)])]
def Λ101 : Lam AV := fun cur vs K =>
  match cur, vs with
  | 0, [.one (.sl f (.int .i64) nl xs), c, .one (.int .i64 r), .one (.int .i64 n), .one (.int .i64 i)] =>
    match cl c with
    | some p =>
      bif decide (n = xs.length) && decide (0 ≤ i) && decide (i ≤ n) && decide (n ≤ 9223372036854775807) then
        (bif decide (idxFrom p (xs.drop i.toNat) i < 0) then K (.exit 0) [.one (.sl f (.int .i64) nl xs), c, .one (.int .i64 r), .one (.int .i64 n), .one (.int .i64 n)]
         else K .ret [.one (.sl f (.int .i64) nl xs), c, .one (.int .i64 (idxFrom p (xs.drop i.toNat) i)), .one (.int .i64 n), .one (.int .i64 (idxFrom p (xs.drop i.toNat) i))])
      else none
    | none => none
  | _, _ => none
def Γ101 : Orc := orc [(N121, s121)]
theorem step101 (f : Bool) (nl : Option Bool) (xs : List Int) (k : Int) (r n i : Int) (K : AE → List AV → Option AV) (fuel : Nat) :
    loopN (aexec tb Γ101 Λ101 ⟨19, 0, live101⟩ (loop1 F101).2 0) 19 0 [(0, .keep), (1, .keep), (4, .keep), (7, .keep), (8, .keep)] K (fuel + 1)
      [.one (.sl f I nl xs), .one (.fn N121 [.ptrD false I k]), .one (.int .i64 r), .one (.int .i64 n), .one (.int .i64 i)] =
    bif decide (i < n) then
      bif inB i xs.length then
        bif badP k (xs.getD i.toNat 0) then K .ret [.one (.sl f I nl xs), .one (.fn N121 [.ptrD false I k]), .one (.int .i64 i), .one (.int .i64 n), .one (.int .i64 i)]
        else loopN (aexec tb Γ101 Λ101 ⟨19, 0, live101⟩ (loop1 F101).2 0) 19 0 [(0, .keep), (1, .keep), (4, .keep), (7, .keep), (8, .keep)] K fuel
          [.one (.sl f I nl xs), .one (.fn N121 [.ptrD false I k]), .one (.int .i64 r), .one (.int .i64 n), .one (.int .i64 (IntKind.i64.wrap (i + 1)))]
      else none
    else K (.exit 0) [.one (.sl f I nl xs), .one (.fn N121 [.ptrD false I k]), .one (.int .i64 r), .one (.int .i64 n), .one (.int .i64 i)] := by kernel_rfl


theorem idxFrom_drop (p : Int → Bool) (xs : List Int) (i : Nat) (h : i < xs.length) : idxFrom p (xs.drop i) i = bif p (xs.getD i 0) then (i : Int) else idxFrom p (xs.drop (i + 1)) ((i + 1 : Nat) : Int) := by
  rw [List.drop_eq_getElem_cons h]
  simp [idxFrom, List.getD_eq_getElem?_getD, h]
theorem idxFrom_ge (p : Int → Bool) : ∀ (xs : List Int) (i : Int), idxFrom p xs i = -1 ∨ i ≤ idxFrom p xs i := by
  intro xs
  induction xs with
  | nil => intro i; exact .inl rfl
  | cons x xs ih =>
    intro i
    simp only [idxFrom]
    cases p x with
    | true => exact .inr (Int.le_refl i)
    | false => rcases ih (i + 1) with h | h
               · exact .inl h
               · exact .inr (by simp only [cond_false]; omega)

theorem loop101 : LoopP tb Γ101 Λ101 ⟨19, 0, live101⟩ (loop1 F101) := by
  intro vs K out h
  have hcur : (loop1 F101).1 = 0 := by kernel_rfl
  rw [hcur] at h ⊢
  unfold Λ101 at h
  split at h
  · rename_i f nl xs c r n i _
    split at h
    · rename_i p hp
      obtain ⟨k, rfl, rfl⟩ := cl_some hp
      · cases hc : (decide (n = xs.length) && decide (0 ≤ i) && decide (i ≤ n) && decide (n ≤ 9223372036854775807)) with
        | false => rw [hc] at h; cases h
        | true =>
          rw [hc] at h
          simp only [cond_true] at h
          simp only [Bool.and_eq_true, decide_eq_true_eq] at hc
          obtain ⟨⟨⟨hn, h0⟩, hi⟩, hmax⟩ := hc
          obtain ⟨j, rfl⟩ := Int.eq_ofNat_of_zero_le h0
          subst hn
          have key : ∀ (m j : Nat) (r : Int), j + m = xs.length → (bif decide (idxFrom (badP k) (xs.drop j) j < 0) then K (.exit 0) [.one (.sl f I nl xs), .one (.fn N121 [.ptrD false I k]), .one (.int .i64 r), .one (.int .i64 xs.length), .one (.int .i64 xs.length)]
              else K .ret [.one (.sl f I nl xs), .one (.fn N121 [.ptrD false I k]), .one (.int .i64 (idxFrom (badP k) (xs.drop j) j)), .one (.int .i64 xs.length), .one (.int .i64 (idxFrom (badP k) (xs.drop j) j))]) = some out →
              ∃ fuel, loopN (aexec tb Γ101 Λ101 ⟨19, 0, live101⟩ (loop1 F101).2 0) 19 0 [(0, .keep), (1, .keep), (4, .keep), (7, .keep), (8, .keep)] K fuel
                [.one (.sl f I nl xs), .one (.fn N121 [.ptrD false I k]), .one (.int .i64 r), .one (.int .i64 xs.length), .one (.int .i64 j)] = some out := by
            intro m
            induction m with
            | zero =>
              intro j r hj h
              refine ⟨1, ?_⟩
              rw [step101]
              have hd : decide ((j : Int) < (xs.length : Int)) = false := by simp; omega
              have hdr : xs.drop j = [] := List.drop_of_length_le (by omega)
              rw [hdr] at h
              simp only [idxFrom] at h
              have : (j : Int) = xs.length := by omega
              rw [hd, this]
              simpa using h
            | succ m ih =>
              intro j r hj h
              have hlt : j < xs.length := by omega
              have hd : decide ((j : Int) < (xs.length : Int)) = true := by simp; omega
              have hb : inB (j : Int) xs.length = true := by simp [inB]; omega
              rw [idxFrom_drop _ _ _ hlt] at h
              cases hx : badP k (xs.getD j 0) with
              | true =>
                refine ⟨1, ?_⟩
                rw [step101, hd, hb]
                simp only [cond_true, Int.toNat_natCast, hx]
                rw [hx] at h
                simp only [cond_true] at h
                have : decide ((j : Int) < 0) = false := by simp
                rw [this] at h
                exact h
              | false =>
                rw [hx] at h
                simp only [cond_false] at h
                obtain ⟨fuel, hf⟩ := ih (j + 1) r (by omega) h
                refine ⟨fuel + 1, ?_⟩
                rw [step101, hd, hb]
                simp only [cond_true, Int.toNat_natCast, hx, cond_false]
                rw [wrap64 (by omega) (by omega)]
                exact hf
          exact key (xs.length - j) j r (by omega) h
    · cases h
  · cases h

theorem r101 (xs : List Int) (k : Int) : run Γ101 Λ101 live101 F101 [.one (.sl false I none xs), .one (.fn N121 [.ptrD false I k])] [] =
    bif decide ((xs.length : Int) = xs.length) && decide ((0 : Int) ≤ 0) && decide ((0 : Int) ≤ (xs.length : Int)) && decide ((xs.length : Int) ≤ 9223372036854775807) then
      bif decide (idxFrom (badP k) (xs.drop (Int.toNat 0)) 0 < 0) then some (.one (.int .i64 (-1))) else some (.one (.int .i64 (idxFrom (badP k) (xs.drop (Int.toNat 0)) 0)))
    else none := by kernel_rfl
def s101 : Sp := .fn [.v (.sl I), .raw] fun x => match cl x.2 with
  | some p => (true, .one (.int .i64 (idxFrom p x.1 0)))
  | none => (false, AV.junk)
theorem Γ101ok : OrcOk Try.prog Γ101 := .cons g121 (.nil _)
theorem g101 : GoodS Try.prog N101 s101 := by
  refine good Γ101ok H101 rfl (by kernel_rfl) Λ101 live101 (oneLoop (p0 := loop1 F101) (by kernel_rfl) loop101) [.v (.sl I), .raw] (by decide) [] _ fun x r hw h => ?_
  obtain ⟨xs, c⟩ := x
  simp only at h
  split at h
  · rename_i p hp
    obtain ⟨k, rfl, rfl⟩ := cl_some hp
    · cases h
      refine (r101 xs k).trans ?_
      have hmax : (xs.length : Int) ≤ 9223372036854775807 := by have : xs.length ≤ 9223372036854775807 := hw.1.1; omega
      have h0 : (0 : Int) ≤ (xs.length : Int) := by omega
      simp only [decide_eq_true hmax, decide_eq_true h0, decide_true, Int.le_refl, Bool.and_self, cond_true, Int.toNat_zero, List.drop_zero]
      rcases idxFrom_ge (badP k) xs 0 with h | h
      · rw [h]; rfl
      · have : decide (idxFrom (badP k) xs 0 < 0) = false := by simpa using h
        rw [this]; rfl
  · cases h
def Γ67 : Orc := orc [(N101, s101)]
theorem r67 (xs : List Int) (k : Int) : run Γ67 noL [] F67 [.one (.sl false I none xs), .one (.fn N121 [.ptrD false I k])] [] = some (.one (.bool (decide (idxFrom (badP k) xs 0 ≥ 0)))) := by kernel_rfl
theorem idx_any (p : Int → Bool) : ∀ (xs : List Int) (i : Int), 0 ≤ i → decide (idxFrom p xs i ≥ 0) = xs.any p := by
  intro xs
  induction xs with
  | nil => intro i _; rfl
  | cons x xs ih =>
    intro i hi
    simp only [idxFrom, List.any_cons]
    rcases Bool.eq_false_or_eq_true (p x) with h | h
    · simp only [h, cond_true, Bool.true_or]; exact decide_eq_true hi
    · simp only [h, cond_false, Bool.false_or]; exact ih (i + 1) (by omega)
def s67 : Sp := .fn [.v (.sl I), .raw] fun x => match cl x.2 with
  | some p => (true, .one (.bool (x.1.any p)))
  | none => (false, AV.junk)
theorem g67 : GoodS Try.prog N67 s67 := by
  refine good (.cons g101 (.nil _)) H67 rfl (by kernel_rfl) noL [] (noLoops (by kernel_rfl)) [.v (.sl I), .raw] (by decide) [] _ fun x r hw h => ?_
  obtain ⟨xs, c⟩ := x
  simp only at h
  split at h
  · rename_i p hp
    obtain ⟨k, rfl, rfl⟩ := cl_some hp
    · cases h
      refine (r67 xs k).trans ?_
      rw [idx_any _ _ _ (Int.le_refl 0)]
  · cases h

/-! ### term.may -/
def Γ104 : Orc := orc [(N67, s67), (N74, s74)]
def mayBad (t : Term.D) : Bool := bif bif decide (t.1 < 1) then true else decide (t.1 > 5) then true else bif t.1 != 5 then t.2.2 != 0 else false
def mayB (t : Term.D) (i : Int) : Bool :=
  bif mayBad t then false
  else bif t.1 == 1 then (bif decide (t.2.1 ≥ 0) then decide (t.2.1 ≤ 1048576) else false)
  else !(partsL t).any (badP i)
theorem r104 (t : Term.D) (i : Int) : run Γ104 noL [] F104 (encA [.v Term, .v I] (t, i)) [] =
    bif mayBad t then some (.one (.bool false)) else bif t.1 == 1 then some (.one (.bool (bif decide (t.2.1 ≥ 0) then decide (t.2.1 ≤ 1048576) else false))) else some (.one (.bool (! (partsL t).any (badP i)))) := by kernel_rfl
def s104 : Sp := .fn [.v Term, .v I] fun x => (true, .one (.bool (mayB x.1 x.2)))
theorem g104 : GoodS Try.prog N104 s104 := by
  refine good (.cons g67 (.cons g74 (.nil _))) H104 rfl (by kernel_rfl) noL [] (noLoops (by kernel_rfl)) [.v Term, .v I] (by decide) [] _ fun x r hw h => ?_
  obtain ⟨t, i⟩ := x
  cases h
  refine (r104 t i).trans ?_
  show _ = some (AV.one (SV.bool (mayB t i)))
  rw [mayB]
  cases mayBad t <;> cases (t.1 == 1) <;> rfl
end Go.AM.Seat
