/- slices.BinarySearch at int. -/
import Derived.Test.YtnkdeglckmogcaaSeT1
set_option linter.unusedVariables false
set_option linter.unusedSimpArgs false
set_option maxRecDepth 100000
namespace Go.AM.Seat
open Go Go.AM Go.Proofs
theorem r120 (a : Int) : run (orc []) noL [] F120 [.one (.int .i64 a)] [] = some (.one (.bool (a != a))) := by kernel_rfl
def s120 : Sp := .fn [.v I] fun x => (true, .one (.bool false))
theorem g120 : GoodS Try.prog N120 s120 := by
  refine good (OrcOk.nil _) H120 rfl (by kernel_rfl) noL [] (noLoops (by kernel_rfl)) [.v I] (by decide) [] _ fun x r hw e => ?_
  cases e
  refine (r120 x).trans ?_
  rw [show (x != x) = false from bne_self_eq_false x]
theorem r100 (a : Int) : run (orc []) noL [] F100 [.one (.int .i64 a)] [] = some (.one (.bool (a != a))) := by kernel_rfl
def s100 : Sp := .fn [.v I] fun x => (true, .one (.bool false))
theorem g100 : GoodS Try.prog N100 s100 := by
  refine good (OrcOk.nil _) H100 rfl (by kernel_rfl) noL [] (noLoops (by kernel_rfl)) [.v I] (by decide) [] _ fun x r hw e => ?_
  cases e
  refine (r100 x).trans ?_
  rw [show (x != x) = false from bne_self_eq_false x]
def Γ99 : Orc := orc [(N120, s120)]
theorem r99 (a b : Int) : run Γ99 noL [] F99 [.one (.int .i64 a), .one (.int .i64 b)] [] = some (.one (.bool (decide (a < b)))) := by kernel_rfl
def s99 : Sp := .fn [.v I, .v I] fun x => (true, .one (.bool (decide ((x.1 : Int) < x.2))))
theorem g99 : GoodS Try.prog N99 s99 := by
  refine good (.cons g120 (.nil _)) H99 rfl (by kernel_rfl) noL [] (noLoops (by kernel_rfl)) [.v I, .v I] (by decide) [] _ fun x r hw e => ?_
  obtain ⟨a, b⟩ := x
  cases e
  exact r99 a b
def Γ66 : Orc := orc [(N99, s99), (N100, s100)]
abbrev live66 : List (Nat × Dir) := [(0, .keep), (1, .keep), (6, .keep), (7, .keep), (8, .keep)]
def vs66 (xs : List Int) (t n i j : Int) : List AV := [.one (.sl false I none xs), .one (.int .i64 t), .one (.int .i64 n), .one (.int .i64 i), .one (.int .i64 j)]
noncomputable abbrev lo66 (Λ : Lam AV) (K : AE → List AV → Option AV) (fuel : Nat) (vs : List AV) : Option AV := loopN (aexec tb Γ66 Λ ⟨54, 0, [(0, live66)]⟩ (loop1 F66).2 0) 54 0 live66 K fuel vs
def bsA (l : List Int) (i : Int) : Int := l.getD i.toNat (Ty.int IntKind.i64).dflt
def midW (i j : Int) : Int := IntKind.i64.wrap ((IntKind.u64.wrap (IntKind.i64.wrap (i + j))).fdiv (2 ^ min (Int.toNat 1) IntKind.u64.bits))
theorem step66 (xs : List Int) (t n i j : Int) (Λ : Lam AV) (K : AE → List AV → Option AV) (fuel : Nat) : lo66 Λ K (fuel + 1) (vs66 xs t n i j) =
    bif decide (i < j) then bif inB (midW i j) xs.length then
      bif decide (bsA xs (midW i j) < t) then lo66 Λ K fuel (vs66 xs t n (IntKind.i64.wrap (midW i j + 1)) j) else lo66 Λ K fuel (vs66 xs t n i (midW i j))
    else none else K (.exit 0) (vs66 xs t n i j) := by kernel_rfl
theorem midW_eq {i j : Nat} (h : i + j ≤ 9223372036854775807) : midW i j = (((i + j) / 2 : Nat) : Int) := by
  unfold midW
  rw [wrap64 (n := (i : Int) + j) (by omega) (by omega), wrapU (by omega) (by omega)]
  have e : (2 : Int) ^ min (Int.toNat 1) IntKind.u64.bits = 2 := by decide
  rw [e]
  have e2 : ((i : Int) + j).fdiv 2 = (((i + j) / 2 : Nat) : Int) := by
    rw [Int.fdiv_eq_ediv_of_nonneg _ (by omega)]; omega
  rw [e2]
  exact wrap64 (by omega) (by omega)
/-- Where one is looked for. -/
def bsN (xs : List Int) (t : Int) : Nat → Nat → Nat → Nat
  | 0, i, _ => i
  | f + 1, i, j => bif decide (i < j) then bif decide (bsA xs ((i + j) / 2 : Nat) < t) then bsN xs t f ((i + j) / 2 + 1) j else bsN xs t f i ((i + j) / 2) else i
def bsP (xs : List Int) (t : Int) : Nat := bsN xs t (xs.length + 1) 0 xs.length
def Λ66 : Lam AV := fun cur vs K =>
  match cur, vs with
  | 0, [.one (.sl false (.int .i64) none xs), .one (.int .i64 t), .one (.int .i64 n), .one (.int .i64 0), .one (.int .i64 j)] =>
    bif decide (n = xs.length) && (decide (j = xs.length) && decide ((xs.length : Int) ≤ 4611686018427387903)) then K (.exit 0) (vs66 xs t n (bsP xs t) (bsP xs t)) else none
  | _, _ => none
theorem loop66 : LoopP tb Γ66 Λ66 ⟨54, 0, [(0, live66)]⟩ (loop1 F66) := by
  intro vs K out h
  have hcur : (loop1 F66).1 = 0 := by kernel_rfl
  rw [hcur] at h ⊢
  unfold Λ66 at h
  split at h
  · rename_i xs t n j _
    cases hc : (decide (n = xs.length) && (decide (j = xs.length) && decide ((xs.length : Int) ≤ 4611686018427387903))) with
    | false => rw [hc] at h; cases h
    | true =>
      rw [hc] at h
      simp only [cond_true] at h
      simp only [Bool.and_eq_true, decide_eq_true_eq] at hc
      obtain ⟨rfl, rfl, hmax⟩ := hc
      have key : ∀ (f i j : Nat), i ≤ j → j ≤ xs.length → j - i < f → K (.exit 0) (vs66 xs t xs.length (bsN xs t f i j) (bsN xs t f i j)) = some out → ∃ fuel, lo66 Λ66 K fuel (vs66 xs t xs.length i j) = some out := by
        intro f
        induction f with
        | zero => intro i j _ _ h; omega
        | succ f ih =>
          intro i j hij hj hf h
          rw [bsN] at h
          rcases Nat.lt_or_ge i j with hlt | hge
          · rw [decide_eq_true hlt] at h
            have hm : inB (((i + j) / 2 : Nat) : Int) xs.length = true := inB_lt (by omega)
            cases hx : decide (bsA xs ((i + j) / 2 : Nat) < t) with
            | true =>
              rw [hx] at h
              obtain ⟨fuel, hf⟩ := ih ((i + j) / 2 + 1) j (by omega) hj (by omega) h
              refine ⟨fuel + 1, ?_⟩
              rw [step66, lt_dec hlt, midW_eq (by omega), hm, hx, wrap64 (n := (((i + j) / 2 : Nat) : Int) + 1) (by omega) (by omega)]
              exact hf
            | false =>
              rw [hx] at h
              obtain ⟨fuel, hf⟩ := ih i ((i + j) / 2) (by omega) (by omega) (by omega) h
              refine ⟨fuel + 1, ?_⟩
              rw [step66, lt_dec hlt, midW_eq (by omega), hm, hx]
              exact hf
          · obtain rfl : i = j := by omega
            rw [decide_eq_false (Nat.lt_irrefl _)] at h
            exact ⟨1, by rw [step66, nlt_dec]; exact h⟩
      exact key (xs.length + 1) 0 xs.length (Nat.zero_le _) (Nat.le_refl _) (by omega) h
  · cases h
def foundB (xs : List Int) (t : Int) : Bool := bif decide ((bsP xs t : Int) < xs.length) then (bif bsA xs (bsP xs t) == t then true else false) else false
def bsR (xs : List Int) (t : Int) : AV := .tup [(false, [.int .i64 (bsP xs t)]), (false, [.bool (foundB xs t)])]
theorem r66 (xs : List Int) (t : Int) : run Γ66 Λ66 [(0, live66)] F66 [.one (.sl false I none xs), .one (.int .i64 t)] [] =
    bif decide ((xs.length : Int) = xs.length) && (decide ((xs.length : Int) = xs.length) && decide ((xs.length : Int) ≤ 4611686018427387903)) then
      bif inB (bsP xs t) xs.length || !boolBeq (decide ((bsP xs t : Int) < xs.length)) true then
        bif inB (bsP xs t) xs.length || !(boolBeq (decide ((bsP xs t : Int) < xs.length)) true && boolBeq (bsA xs (bsP xs t) == t) false) then some (bsR xs t) else none
      else none
    else none := by kernel_rfl
def s66 : Sp := .fn [.v (.sl I), .v I] fun x => (decide (x.1.length ≤ 1000000), bsR x.1 x.2)
theorem g66 : GoodS Try.prog N66 s66 := by
  refine good (.cons g99 (.cons g100 (.nil _))) H66 rfl (by kernel_rfl) Λ66 [(0, live66)] (oneLoop (p0 := loop1 F66) (by kernel_rfl) loop66) [.v (.sl I), .v I] (by decide) [] _ fun x r hw h => ?_
  obtain ⟨xs, t⟩ := x
  simp only [Prod.mk.injEq, decide_eq_true_eq] at h
  obtain ⟨h1, rfl⟩ := h
  refine (r66 xs t).trans ?_
  rw [decide_eq_true rfl, decide_eq_true (show (xs.length : Int) ≤ 4611686018427387903 by omega)]
  have key : (inB (bsP xs t) xs.length || !boolBeq (decide ((bsP xs t : Int) < xs.length)) true) = true ∧ (inB (bsP xs t) xs.length || !(boolBeq (decide ((bsP xs t : Int) < xs.length)) true && boolBeq (bsA xs (bsP xs t) == t) false)) = true := by
    rcases Nat.lt_or_ge (bsP xs t) xs.length with h | h
    · rw [inB_lt h]; exact ⟨rfl, rfl⟩
    · rw [decide_eq_false (show ¬ (bsP xs t : Int) < xs.length by omega)]
      exact ⟨by simp [boolBeq], by simp [boolBeq]⟩
  rw [key.1, key.2]; rfl
/-! ### what it finds -/
theorem bsN_spec {xs : List Int} {t : Int} (hs : xs.Pairwise (· < ·)) : ∀ (f i j : Nat), i ≤ j → j ≤ xs.length → j - i < f → (∀ k, k < i → bsA xs k < t) → (∀ k, j ≤ k → k < xs.length → ¬ bsA xs k < t) →
    bsN xs t f i j ≤ xs.length ∧ (∀ k, k < bsN xs t f i j → bsA xs k < t) ∧ (∀ k, bsN xs t f i j ≤ k → k < xs.length → ¬ bsA xs k < t) := by
  have hmono : ∀ a b, a < b → b < xs.length → bsA xs a < bsA xs b := fun a b hab hb => by
    have h := List.pairwise_iff_getElem.1 hs a b (by omega) hb hab
    unfold bsA; simpa [show a < xs.length by omega, hb] using h
  intro f
  induction f with
  | zero => intro i j _ _ h; omega
  | succ f ih =>
    intro i j hij hj hf h1 h2
    rw [bsN]
    rcases Nat.lt_or_ge i j with hlt | hge
    · rw [decide_eq_true hlt]
      cases hx : decide (bsA xs ((i + j) / 2 : Nat) < t) with
      | true =>
        have hx := of_decide_eq_true hx
        refine ih _ _ (by omega) hj (by omega) (fun k hk => ?_) h2
        rcases Nat.lt_or_ge k ((i + j) / 2) with h9 | h9
        · exact Int.lt_trans (hmono k _ h9 (by omega)) hx
        · obtain rfl : k = (i + j) / 2 := by omega
          exact hx
      | false =>
        have hx := of_decide_eq_false hx
        refine ih _ _ (by omega) (by omega) (by omega) h1 fun k hk hkl => ?_
        rcases Nat.lt_or_ge ((i + j) / 2) k with h9 | h9
        · have := hmono _ k h9 hkl
          omega
        · obtain rfl : k = (i + j) / 2 := by omega
          exact hx
    · obtain rfl : i = j := by omega
      rw [decide_eq_false (Nat.lt_irrefl _)]
      exact ⟨hj, h1, h2⟩
theorem found_iff {xs : List Int} {t : Int} (hs : xs.Pairwise (· < ·)) : foundB xs t = true ↔ t ∈ xs := by
  obtain ⟨h0, h1, h2⟩ := bsN_spec (t := t) hs (xs.length + 1) 0 xs.length (Nat.zero_le _) (Nat.le_refl _) (by omega) (fun k hk => by omega) (fun k hk hkl => by omega)
  change bsP xs t ≤ _ at h0
  change ∀ k, k < bsP xs t → _ at h1
  change ∀ k, bsP xs t ≤ k → _ at h2
  have ha : ∀ k (h : k < xs.length), bsA xs k = xs[k] := fun k h => by unfold bsA; simp [h]
  unfold foundB
  constructor
  · intro h
    rcases Nat.lt_or_ge (bsP xs t) xs.length with hl | hl
    · rw [decide_eq_true (show (bsP xs t : Int) < xs.length by omega)] at h
      cases he : bsA xs (bsP xs t) == t with
      | false => rw [he] at h; cases h
      | true =>
        have he := eq_of_beq he
        rw [← he, ha _ hl]; exact List.getElem_mem hl
    · rw [decide_eq_false (show ¬ (bsP xs t : Int) < xs.length by omega)] at h; cases h
  · intro h
    obtain ⟨k, hk, rfl⟩ := List.getElem_of_mem h
    have e : bsP xs xs[k] = k := by
      rcases Nat.lt_trichotomy (bsP xs xs[k]) k with h9 | h9 | h9
      · have hm := List.pairwise_iff_getElem.1 hs _ k (by omega) hk h9
        have := h2 _ (Nat.le_refl _) (show bsP xs xs[k] < xs.length by omega)
        rw [ha _ (show bsP xs xs[k] < xs.length by omega)] at this
        exact absurd hm this
      · exact h9
      · have := h1 k h9
        rw [ha k hk] at this; exact absurd this (Int.lt_irrefl _)
    rw [e, decide_eq_true (show (k : Int) < xs.length by omega), ha k hk]
    simp
end Go.AM.Seat
