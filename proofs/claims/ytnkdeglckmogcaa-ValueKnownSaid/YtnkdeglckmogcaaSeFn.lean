/- The seat: loops that look for one, by a number. -/
import Derived.Test.YtnkdeglckmogcaaSeG
set_option linter.unusedVariables false
set_option maxRecDepth 100000
namespace Go.AM.Seat
open Go Go.AM Go.Proofs

/-- The first number, from j on, m at most, that is looked for; else -1. -/
def idxN (p : Int → Bool) : Nat → Nat → Int
  | 0, _ => -1
  | m + 1, j => bif p j then (j : Int) else idxN p m (j + 1)
theorem findN {ρ : Type} {n : Nat} {ok ans : Int → Bool} {F : Nat → Int → Option ρ} {Kx Kr : Int → Option ρ} (hmax : (n : Int) ≤ 9223372036854775807)
    (step : ∀ fuel (i : Int), F (fuel + 1) i = bif decide (i < n) then bif ok i then bif ans i then Kr i else F fuel (IntKind.i64.wrap (i + 1)) else none else Kx i)
    (hall : ∀ j : Nat, j < n → ok j = true) {out : ρ} (h : (bif decide (idxN ans n 0 < 0) then Kx n else Kr (idxN ans n 0)) = some out) : ∃ fuel, F fuel 0 = some out := by
  have key : ∀ (m j : Nat), j + m = n → (bif decide (idxN ans m j < 0) then Kx n else Kr (idxN ans m j)) = some out → ∃ fuel, F fuel j = some out := by
    intro m
    induction m with
    | zero =>
      intro j hj h
      obtain rfl : j = n := by omega
      exact ⟨1, by rw [step, nlt_dec]; exact h⟩
    | succ m ih =>
      intro j hj h
      have hlt : j < n := by omega
      cases hp : ans j with
      | true =>
        have e : idxN ans (m + 1) j = j := by rw [idxN, hp]; rfl
        rw [e, decide_eq_false (show ¬ ((j : Nat) : Int) < 0 by omega)] at h
        exact ⟨1, by rw [step, lt_dec hlt, hall j hlt, hp]; exact h⟩
      | false =>
        have e : idxN ans (m + 1) j = idxN ans m (j + 1) := by rw [idxN, hp]; rfl
        rw [e] at h
        obtain ⟨fuel, hf⟩ := ih (j + 1) (by omega) h
        exact ⟨fuel + 1, by rw [step, lt_dec hlt, hall j hlt, hp, wrap64 (n := (j : Int) + 1) (by omega) (by omega)]; exact hf⟩
  exact key n 0 (by omega) h
theorem idxN_lt (p : Int → Bool) : ∀ (m j : Nat), decide (idxN p m j < 0) = true ↔ ∀ k : Nat, j ≤ k → k < j + m → p k = false := by
  intro m
  induction m with
  | zero => intro j; exact ⟨fun _ k h1 h2 => by omega, fun _ => rfl⟩
  | succ m ih =>
    intro j
    cases hp : p j with
    | true =>
      have e : idxN p (m + 1) j = j := by rw [idxN, hp]; rfl
      rw [e, decide_eq_false (show ¬ ((j : Nat) : Int) < 0 by omega)]
      exact ⟨fun h => (by cases h), fun h => by rw [h j (Nat.le_refl _) (by omega)] at hp; cases hp⟩
    | false =>
      have e : idxN p (m + 1) j = idxN p m (j + 1) := by rw [idxN, hp]; rfl
      rw [e, ih]
      refine ⟨fun h k h1 h2 => ?_, fun h k h1 h2 => h k (by omega) (by omega)⟩
      rcases Nat.eq_or_lt_of_le h1 with rfl | h3
      · exact hp
      · exact h k h3 (by omega)
/-- Is there one? -/
def anyN (p : Int → Bool) (n : Nat) : Bool := !decide (idxN p n 0 < 0)
theorem anyN_iff {p : Int → Bool} {n : Nat} : anyN p n = true ↔ ∃ k : Nat, k < n ∧ p k = true := by
  unfold anyN
  constructor
  · intro h
    rcases Classical.em (∃ k : Nat, k < n ∧ p k = true) with h9 | h9
    · exact h9
    · have : decide (idxN p n 0 < 0) = true := (idxN_lt p n 0).2 fun k _ hk => by
        cases hp : p k with
        | true => exact absurd ⟨k, by omega, hp⟩ h9
        | false => rfl
      rw [this] at h; cases h
  · rintro ⟨k, h1, h2⟩
    cases hd : decide (idxN p n 0 < 0) with
    | true => have := (idxN_lt p n 0).1 hd k (Nat.zero_le _) (by omega); rw [this] at h2; cases h2
    | false => rfl
theorem anyN_not {p : Int → Bool} {n : Nat} : decide (idxN p n 0 < 0) = !anyN p n := by unfold anyN; rw [Bool.not_not]
theorem anyN_list {α : Type} {xs : List α} {d : α} {p : α → Bool} : anyN (fun i => p (xs.getD i.toNat d)) xs.length = xs.any p := by
  rw [Bool.eq_iff_iff, anyN_iff, List.any_eq_true]
  constructor
  · rintro ⟨k, hk, h⟩
    refine ⟨xs[k], List.getElem_mem hk, ?_⟩
    simpa [hk] using h
  · rintro ⟨x, hx, h⟩
    obtain ⟨k, hk, rfl⟩ := List.getElem_of_mem hx
    exact ⟨k, hk, by simpa [hk] using h⟩
theorem bif_and {ρ : Type} {c d : Bool} {x : Option ρ} : (bif c && d then x else none) = bif c then bif d then x else none else none := by cases c <;> cases d <;> rfl
/-- Marks. -/
def mrk (b : List Bool) (x : Int) : List Bool := b.set x.toNat true
def mrkL : List Int → List Bool → List Bool
  | [], b => b
  | x :: r, b => mrkL r (mrk b x)
def lA (l : List Int) (i : Int) : Int := l.getD i.toNat (Ty.int IntKind.i64).dflt
theorem lA_drop {l : List Int} {j : Nat} (h : j < l.length) : l.drop j = lA l j :: l.drop (j + 1) := by
  rw [List.drop_eq_getElem_cons h]
  simp [lA, h]
theorem markN {ρ : Type} {xs : List Int} {F : Nat → List Bool → Int → Option ρ} {Kx : List Bool → Int → Option ρ} (hmax : (xs.length : Int) ≤ 9223372036854775807)
    (step : ∀ fuel b (i : Int), F (fuel + 1) b i = bif decide (i < (xs.length : Int)) then bif inB i xs.length then bif inB (lA xs i) b.length then F fuel (mrk b (lA xs i)) (IntKind.i64.wrap (i + 1)) else none else none else Kx b i)
    {b : List Bool} (hall : (xs.all fun x => inB x b.length) = true) {out : ρ} (h : Kx (mrkL xs b) xs.length = some out) : ∃ fuel, F fuel b 0 = some out := by
  have key : ∀ (m j : Nat) (b' : List Bool), j + m = xs.length → b'.length = b.length → Kx (mrkL (xs.drop j) b') xs.length = some out → ∃ fuel, F fuel b' j = some out := by
    intro m
    induction m with
    | zero =>
      intro j b' hj _ h
      obtain rfl : j = xs.length := by omega
      rw [List.drop_length] at h
      exact ⟨1, by rw [step, nlt_dec]; exact h⟩
    | succ m ih =>
      intro j b' hj hb h
      have hlt : j < xs.length := by omega
      have hi : inB (lA xs j) b'.length = true := by rw [hb]; exact List.all_eq_true.1 hall _ (by unfold lA; simp [hlt])
      rw [lA_drop hlt, mrkL] at h
      obtain ⟨fuel, hf⟩ := ih (j + 1) _ (by omega) (by unfold mrk; rw [List.length_set]; exact hb) h
      exact ⟨fuel + 1, by rw [step, lt_dec hlt, inB_lt hlt, hi, wrap64 (n := (j : Int) + 1) (by omega) (by omega)]; exact hf⟩
  exact key xs.length 0 b (by omega) rfl h
def bA (b : List Bool) (x : Int) : Bool := b.getD x.toNat Ty.bool.dflt
theorem mrkL_len : ∀ (xs : List Int) (b : List Bool), (mrkL xs b).length = b.length := by
  intro xs
  induction xs with
  | nil => intro b; rfl
  | cons x r ih => intro b; rw [mrkL, ih]; unfold mrk; simp
theorem mrkL_at : ∀ (xs : List Int) (b : List Bool), (∀ x ∈ xs, 0 ≤ x ∧ x < (b.length : Int)) → ∀ y : Int, 0 ≤ y → (bA (mrkL xs b) y = true ↔ bA b y = true ∨ y ∈ xs) := by
  intro xs
  induction xs with
  | nil => intro b _ y _; simp [mrkL]
  | cons x r ih =>
    intro b h y hy
    have hx := h x (by simp)
    rw [mrkL, ih _ (fun z hz => by unfold mrk; rw [List.length_set]; exact h z (by simp [hz])) y hy]
    have e : bA (mrk b x) y = true ↔ bA b y = true ∨ y = x := by
      unfold bA mrk
      rw [List.getD_eq_getElem?_getD, List.getElem?_set]
      by_cases e : x.toNat = y.toNat
      · have : y = x := by omega
        subst this
        rw [if_pos rfl, if_pos (by omega)]; simp
      · rw [if_neg e, ← List.getD_eq_getElem?_getD]
        have : ¬ y = x := fun e' => e (by rw [e'])
        simp [this]
    rw [e, List.mem_cons]
    constructor
    · rintro ((h | h) | h)
      · exact .inl h
      · exact .inr (.inl h)
      · exact .inr (.inr h)
    · rintro (h | h | h)
      · exact .inl (.inl h)
      · exact .inl (.inr h)
      · exact .inr h
theorem mrk_none {n : Nat} {y : Int} : bA (List.replicate n false) y = false := by
  unfold bA
  rw [List.getD_eq_getElem?_getD, List.getElem?_replicate]
  split <;> rfl
end Go.AM.Seat
