/- The seat: contracts: leaf.Check, find, Below; slices.BinarySearch at uint64. -/
import Derived.Test.YtkalaofppiifcaaSl2
set_option linter.unusedVariables false
set_option linter.unusedSimpArgs false
set_option maxRecDepth 100000
namespace Go.AM.Seat
open Go Go.AM Go.Proofs
theorem r421 (a : Int) : run (orc []) noL [] F421 [.one (.int .u64 a)] [] = some (.one (.bool (a != a))) := by kernel_rfl
def s421 : Sp := .fn [.v U] fun x => (true, .one (.bool false))
theorem g421 : GoodS Try.prog N421 s421 := by
  refine good (OrcOk.nil _) H421 rfl (by kernel_rfl) noL [] (noLoops (by kernel_rfl)) [.v U] (by decide) [] _ fun x r hw e => ?_
  cases e
  refine (r421 x).trans ?_
  rw [show (x != x) = false from bne_self_eq_false x]
def Γ422 : Orc := orc [(N421, s421)]
theorem r422 (a b : Int) : run Γ422 noL [] F422 [.one (.int .u64 a), .one (.int .u64 b)] [] = some (.one (.bool (decide (a < b)))) := by kernel_rfl
def s422 : Sp := .fn [.v U, .v U] fun x => (true, .one (.bool (decide ((x.1 : Int) < x.2))))
theorem g422 : GoodS Try.prog N422 s422 := by
  refine good (.cons g421 (.nil _)) H422 rfl (by kernel_rfl) noL [] (noLoops (by kernel_rfl)) [.v U, .v U] (by decide) [] _ fun x r hw e => ?_
  obtain ⟨a, b⟩ := x
  cases e
  exact r422 a b
def Γ402u : Orc := orc [(N422, s422), (N423, s423)]
abbrev live402u : List (Nat × Dir) := [(0, .keep), (1, .keep), (6, .keep), (7, .keep), (8, .keep)]
def vs402u (xs : List Int) (t n i j : Int) : List AV := [.one (.sl false U none xs), .one (.int .u64 t), .one (.int .i64 n), .one (.int .i64 i), .one (.int .i64 j)]
noncomputable abbrev lo402u (Λ : Lam AV) (K : AE → List AV → Option AV) (fuel : Nat) (vs : List AV) : Option AV := loopN (aexec tb Γ402u Λ ⟨54, 0, [(0, live402u)]⟩ (loop1 F402).2 0) 54 0 live402u K fuel vs
def bsAu (l : List Int) (i : Int) : Int := l.getD i.toNat (Ty.int IntKind.u64).dflt
def midWu (i j : Int) : Int := IntKind.i64.wrap ((IntKind.u64.wrap (IntKind.i64.wrap (i + j))).fdiv (2 ^ min (Int.toNat 1) IntKind.u64.bits))
theorem step402u (xs : List Int) (t n i j : Int) (Λ : Lam AV) (K : AE → List AV → Option AV) (fuel : Nat) : lo402u Λ K (fuel + 1) (vs402u xs t n i j) =
    bif decide (i < j) then bif inB (midWu i j) xs.length then
      bif decide (bsAu xs (midWu i j) < t) then lo402u Λ K fuel (vs402u xs t n (IntKind.i64.wrap (midWu i j + 1)) j) else lo402u Λ K fuel (vs402u xs t n i (midWu i j))
    else none else K (.exit 0) (vs402u xs t n i j) := by kernel_rfl
theorem midW_equ {i j : Nat} (h : i + j ≤ 9223372036854775807) : midWu i j = (((i + j) / 2 : Nat) : Int) := by
  unfold midWu
  rw [wrap64 (n := (i : Int) + j) (by omega) (by omega), wrapU (by omega) (by omega)]
  have e : (2 : Int) ^ min (Int.toNat 1) IntKind.u64.bits = 2 := by decide
  rw [e]
  have e2 : ((i : Int) + j).fdiv 2 = (((i + j) / 2 : Nat) : Int) := by
    rw [Int.fdiv_eq_ediv_of_nonneg _ (by omega)]; omega
  rw [e2]
  exact wrap64 (by omega) (by omega)
/-- Where one is looked for. -/
def bsNu (xs : List Int) (t : Int) : Nat → Nat → Nat → Nat
  | 0, i, _ => i
  | f + 1, i, j => bif decide (i < j) then bif decide (bsAu xs ((i + j) / 2 : Nat) < t) then bsNu xs t f ((i + j) / 2 + 1) j else bsNu xs t f i ((i + j) / 2) else i
def bsPu (xs : List Int) (t : Int) : Nat := bsNu xs t (xs.length + 1) 0 xs.length
def Λ402u : Lam AV := fun cur vs K =>
  match cur, vs with
  | 0, [.one (.sl false (.int .u64) none xs), .one (.int .u64 t), .one (.int .i64 n), .one (.int .i64 0), .one (.int .i64 j)] =>
    bif decide (n = xs.length) && (decide (j = xs.length) && decide ((xs.length : Int) ≤ 4611686018427387903)) then K (.exit 0) (vs402u xs t n (bsPu xs t) (bsPu xs t)) else none
  | _, _ => none
theorem loop402u : LoopP tb Γ402u Λ402u ⟨54, 0, [(0, live402u)]⟩ (loop1 F402) := by
  intro vs K out h
  have hcur : (loop1 F402).1 = 0 := by kernel_rfl
  rw [hcur] at h ⊢
  unfold Λ402u at h
  split at h
  · rename_i xs t n j _
    cases hc : (decide (n = xs.length) && (decide (j = xs.length) && decide ((xs.length : Int) ≤ 4611686018427387903))) with
    | false => rw [hc] at h; cases h
    | true =>
      rw [hc] at h
      simp only [cond_true] at h
      simp only [Bool.and_eq_true, decide_eq_true_eq] at hc
      obtain ⟨rfl, rfl, hmax⟩ := hc
      have key : ∀ (f i j : Nat), i ≤ j → j ≤ xs.length → j - i < f → K (.exit 0) (vs402u xs t xs.length (bsNu xs t f i j) (bsNu xs t f i j)) = some out → ∃ fuel, lo402u Λ402u K fuel (vs402u xs t xs.length i j) = some out := by
        intro f
        induction f with
        | zero => intro i j _ _ h; omega
        | succ f ih =>
          intro i j hij hj hf h
          rw [bsNu] at h
          rcases Nat.lt_or_ge i j with hlt | hge
          · rw [decide_eq_true hlt] at h
            have hm : inB (((i + j) / 2 : Nat) : Int) xs.length = true := inB_lt (by omega)
            cases hx : decide (bsAu xs ((i + j) / 2 : Nat) < t) with
            | true =>
              rw [hx] at h
              obtain ⟨fuel, hf⟩ := ih ((i + j) / 2 + 1) j (by omega) hj (by omega) h
              refine ⟨fuel + 1, ?_⟩
              rw [step402u, lt_dec hlt, midW_equ (by omega), hm, hx, wrap64 (n := (((i + j) / 2 : Nat) : Int) + 1) (by omega) (by omega)]
              exact hf
            | false =>
              rw [hx] at h
              obtain ⟨fuel, hf⟩ := ih i ((i + j) / 2) (by omega) (by omega) (by omega) h
              refine ⟨fuel + 1, ?_⟩
              rw [step402u, lt_dec hlt, midW_equ (by omega), hm, hx]
              exact hf
          · obtain rfl : i = j := by omega
            rw [decide_eq_false (Nat.lt_irrefl _)] at h
            exact ⟨1, by rw [step402u, nlt_dec]; exact h⟩
      exact key (xs.length + 1) 0 xs.length (Nat.zero_le _) (Nat.le_refl _) (by omega) h
  · cases h
def foundBu (xs : List Int) (t : Int) : Bool := bif decide ((bsPu xs t : Int) < xs.length) then (bif bsAu xs (bsPu xs t) == t then true else false) else false
def bsRu (xs : List Int) (t : Int) : AV := .tup [(false, [.int .i64 (bsPu xs t)]), (false, [.bool (foundBu xs t)])]
theorem r402u (xs : List Int) (t : Int) : run Γ402u Λ402u [(0, live402u)] F402 [.one (.sl false U none xs), .one (.int .u64 t)] [] =
    bif decide ((xs.length : Int) = xs.length) && (decide ((xs.length : Int) = xs.length) && decide ((xs.length : Int) ≤ 4611686018427387903)) then
      bif inB (bsPu xs t) xs.length || !boolBeq (decide ((bsPu xs t : Int) < xs.length)) true then
        bif inB (bsPu xs t) xs.length || !(boolBeq (decide ((bsPu xs t : Int) < xs.length)) true && boolBeq (bsAu xs (bsPu xs t) == t) false) then some (bsRu xs t) else none
      else none
    else none := by kernel_rfl
def s402u : Sp := .fn [.v (.sl U), .v U] fun x => (decide (x.1.length ≤ 1000000), bsRu x.1 x.2)
theorem g402u : GoodS Try.prog N402 s402u := by
  refine good (.cons g422 (.cons g423 (.nil _))) H402 rfl (by kernel_rfl) Λ402u [(0, live402u)] (oneLoop (p0 := loop1 F402) (by kernel_rfl) loop402u) [.v (.sl U), .v U] (by decide) [] _ fun x r hw h => ?_
  obtain ⟨xs, t⟩ := x
  simp only [Prod.mk.injEq, decide_eq_true_eq] at h
  obtain ⟨h1, rfl⟩ := h
  refine (r402u xs t).trans ?_
  rw [decide_eq_true rfl, decide_eq_true (show (xs.length : Int) ≤ 4611686018427387903 by omega)]
  have key : (inB (bsPu xs t) xs.length || !boolBeq (decide ((bsPu xs t : Int) < xs.length)) true) = true ∧ (inB (bsPu xs t) xs.length || !(boolBeq (decide ((bsPu xs t : Int) < xs.length)) true && boolBeq (bsAu xs (bsPu xs t) == t) false)) = true := by
    rcases Nat.lt_or_ge (bsPu xs t) xs.length with h | h
    · rw [inB_lt h]; exact ⟨rfl, rfl⟩
    · rw [decide_eq_false (show ¬ (bsPu xs t : Int) < xs.length by omega)]
      exact ⟨by simp [boolBeq], by simp [boolBeq]⟩
  rw [key.1, key.2]; rfl
/-! ### what it finds -/
theorem bsN_specu {xs : List Int} {t : Int} (hs : xs.Pairwise (· < ·)) : ∀ (f i j : Nat), i ≤ j → j ≤ xs.length → j - i < f → (∀ k, k < i → bsAu xs k < t) → (∀ k, j ≤ k → k < xs.length → ¬ bsAu xs k < t) →
    bsNu xs t f i j ≤ xs.length ∧ (∀ k, k < bsNu xs t f i j → bsAu xs k < t) ∧ (∀ k, bsNu xs t f i j ≤ k → k < xs.length → ¬ bsAu xs k < t) := by
  have hmono : ∀ a b, a < b → b < xs.length → bsAu xs a < bsAu xs b := fun a b hab hb => by
    have h := List.pairwise_iff_getElem.1 hs a b (by omega) hb hab
    unfold bsAu; simpa [show a < xs.length by omega, hb] using h
  intro f
  induction f with
  | zero => intro i j _ _ h; omega
  | succ f ih =>
    intro i j hij hj hf h1 h2
    rw [bsNu]
    rcases Nat.lt_or_ge i j with hlt | hge
    · rw [decide_eq_true hlt]
      cases hx : decide (bsAu xs ((i + j) / 2 : Nat) < t) with
      | true =>
        have hx := of_decide_eq_true hx
        refine ih _ _ (by omega) hj (by omega) (fun k hk => ?_) h2
        rcases Nat.lt_or_ge k ((i + j) / 2) with h9 | h9
        · exact Int.lt_trans (hmono k _ h9 (by omega)) hx
        · obtain rfl : k = (i + j) / 2 := by omega
          exact hx
      | false =>
        have hx := of_decide_eq_false hx
        refine ih _ _ (by omega) (by omega) (by omega) h1 fun k hk hkl => ?_
        rcases Nat.lt_or_ge ((i + j) / 2) k with h9 | h9
        · have := hmono _ k h9 hkl
          omega
        · obtain rfl : k = (i + j) / 2 := by omega
          exact hx
    · obtain rfl : i = j := by omega
      rw [decide_eq_false (Nat.lt_irrefl _)]
      exact ⟨hj, h1, h2⟩
theorem found_iffu {xs : List Int} {t : Int} (hs : xs.Pairwise (· < ·)) : foundBu xs t = true ↔ t ∈ xs := by
  obtain ⟨h0, h1, h2⟩ := bsN_specu (t := t) hs (xs.length + 1) 0 xs.length (Nat.zero_le _) (Nat.le_refl _) (by omega) (fun k hk => by omega) (fun k hk hkl => by omega)
  change bsPu xs t ≤ _ at h0
  change ∀ k, k < bsPu xs t → _ at h1
  change ∀ k, bsPu xs t ≤ k → _ at h2
  have ha : ∀ k (h : k < xs.length), bsAu xs k = xs[k] := fun k h => by unfold bsAu; simp [h]
  unfold foundBu
  constructor
  · intro h
    rcases Nat.lt_or_ge (bsPu xs t) xs.length with hl | hl
    · rw [decide_eq_true (show (bsPu xs t : Int) < xs.length by omega)] at h
      cases he : bsAu xs (bsPu xs t) == t with
      | false => rw [he] at h; cases h
      | true =>
        have he := eq_of_beq he
        rw [← he, ha _ hl]; exact List.getElem_mem hl
    · rw [decide_eq_false (show ¬ (bsPu xs t : Int) < xs.length by omega)] at h; cases h
  · intro h
    obtain ⟨k, hk, rfl⟩ := List.getElem_of_mem h
    have e : bsPu xs xs[k] = k := by
      rcases Nat.lt_trichotomy (bsPu xs xs[k]) k with h9 | h9 | h9
      · have hm := List.pairwise_iff_getElem.1 hs _ k (by omega) hk h9
        have := h2 _ (Nat.le_refl _) (show bsPu xs xs[k] < xs.length by omega)
        rw [ha _ (show bsPu xs xs[k] < xs.length by omega)] at this
        exact absurd hm this
      · exact h9
      · have := h1 k h9
        rw [ha k hk] at this; exact absurd this (Int.lt_irrefl _)
    rw [e, decide_eq_true (show (k : Int) < xs.length by omega), ha k hk]
    simp

/-! ### leaf.Check -/
def lbad (a : Int) (l l2 : List Int) (i : Int) : Bool := bif !((leafI a (bsAu l2 i)).2 == 0) then true else bif decide (i > 0) then decide (bsAu l (IntKind.i64.wrap (i - 1)) ≥ bsAu l2 i) else false
def lgd (a : Int) (l l2 : List Int) (i : Int) : Bool := inB (IntKind.i64.wrap (i - 1)) l.length || !(boolBeq (!((leafI a (bsAu l2 i)).2 == 0)) false && boolBeq (decide (i > 0)) true)
theorem lgd_ok {a : Int} {l l2 : List Int} {j : Nat} (hj : j < l.length) (hm : (l.length : Int) ≤ 9223372036854775807) : lgd a l l2 j = true := by
  unfold lgd
  rcases Nat.eq_zero_or_pos j with rfl | h0
  · simp [boolBeq]
  · rw [wrap64 (n := (j : Int) - 1) (by omega) (by omega), show ((j : Int) - 1) = ((j - 1 : Nat) : Int) by omega, inB_lt (show j - 1 < l.length by omega)]; rfl
abbrev live400L : List (Nat × Dir) := [(0, .keep), (1, .keep), (4, .keep), (15, .keep), (16, .keep), (17, .keep)]
def vs400L (a : Int) (l : List Int) (e : Int) (l2 : List Int) (n i : Int) : List AV := [.one (.int .i64 a), .one (.sl false U none l), .one (.int .i64 e), .one (.sl false U none l2), .one (.int .i64 n), .one (.int .i64 i)]
noncomputable abbrev lo400L (Λ : Lam AV) (K : AE → List AV → Option AV) (fuel : Nat) (vs : List AV) : Option AV := loopN (aexec tb Γ400 Λ ⟨40, 0, [(0, live400L)]⟩ (loop1 F400).2 0) 40 0 live400L K fuel vs
theorem step400L (a : Int) (l : List Int) (e : Int) (l2 : List Int) (n i : Int) (Λ : Lam AV) (K : AE → List AV → Option AV) (fuel : Nat) : lo400L Λ K (fuel + 1) (vs400L a l e l2 n i) =
    bif decide (i < n) then bif inB i l2.length then bif lgd a l l2 i then bif lbad a l l2 i then K .ret (vs400L a l 1 l2 n i) else lo400L Λ K fuel (vs400L a l e l2 n (IntKind.i64.wrap (i + 1))) else none else none else K (.exit 0) (vs400L a l e l2 n i) := by kernel_rfl
noncomputable def Λ400L : Lam AV := fun cur vs K =>
  match cur, vs with
  | 0, [.one (.int .i64 a), .one (.sl false (.int .u64) none l), .one (.int .i64 e), .one (.sl false (.int .u64) none l2), .one (.int .i64 n), .one (.int .i64 0)] =>
    bif decide (n = l2.length) && (decide (n ≤ 9223372036854775807) && decide (l.length = l2.length)) then
      (bif decide (idxN (fun i => lbad a l l2 i) (l2.length) 0 < 0) then K (.exit 0) (vs400L a l e l2 n n) else K .ret (vs400L a l 1 l2 n (idxN (fun i => lbad a l l2 i) (l2.length) 0)))
    else none
  | _, _ => none
theorem loop400L : LoopP tb Γ400 Λ400L ⟨40, 0, [(0, live400L)]⟩ (loop1 F400) := by
  intro vs K out h
  have hcur : (loop1 F400).1 = 0 := by kernel_rfl
  rw [hcur] at h ⊢
  unfold Λ400L at h
  split at h
  · rename_i a l e l2 n _
    cases hc : (decide (n = l2.length) && (decide (n ≤ 9223372036854775807) && decide (l.length = l2.length))) with
    | false => rw [hc] at h; cases h
    | true =>
      rw [hc] at h
      simp only [cond_true] at h
      rw [Bool.and_eq_true, Bool.and_eq_true] at hc
      obtain ⟨h1, h2, hall⟩ := hc
      have h1 := of_decide_eq_true h1
      have hmax := of_decide_eq_true h2
      subst h1
      refine findN (ok := fun i => inB i l2.length && lgd a l l2 i) (ans := fun i => lbad a l l2 i) (F := fun fuel i => lo400L Λ400L K fuel (vs400L a l e l2 (l2.length) i)) (Kx := fun i => K (.exit 0) (vs400L a l e l2 (l2.length) i)) (Kr := fun i => K .ret (vs400L a l 1 l2 (l2.length) i)) hmax
        (fun fuel i => (step400L a l e l2 (l2.length) i Λ400L K fuel).trans ?_) (fun j hj => ?_) h
      · cases inB i l2.length <;> rfl
      · have hall := of_decide_eq_true hall
        show (inB ((j : Nat) : Int) l2.length && lgd a l l2 j) = true
        rw [inB_lt hj, lgd_ok (by omega) (by omega)]; rfl
  · cases h

def lbadA (a : Int) (l : List Int) : Bool := anyN (lbad a l l) l.length
theorem r400L (a : Int) (l : List Int) : run Γ400 Λ400L [(0, live400L)] F400 [.one (.int .i64 a), .one (.sl false U none l)] [] =
    bif bif chkI a 1 != 0 then true else decide ((l.length : Int) > 1024) then some (.one (.int .i64 1)) else
    bif decide ((l.length : Int) = l.length) && (decide ((l.length : Int) ≤ 9223372036854775807) && decide (l.length = l.length)) then
      (bif decide (idxN (fun i => lbad a l l i) l.length 0 < 0) then some (.one (.int .i64 0)) else some (.one (.int .i64 1))) else none := by kernel_rfl
def lokB (a : Int) (l : List Int) : Bool := !(bif (bif chkI a 1 != 0 then true else decide ((l.length : Int) > 1024)) then true else lbadA a l)
def lchkI (a : Int) (l : List Int) : Int := bif lokB a l then 0 else 1
def s400L : Sp := .fn [.v I, .v (.sl U)] fun x => (true, .one (.int .i64 (lchkI x.1 x.2)))
theorem g400L : GoodS Try.prog N400 s400L := by
  refine good (.cons g366 (.cons g401 (.nil _))) H400 rfl (by kernel_rfl) Λ400L [(0, live400L)] (oneLoop (p0 := loop1 F400) (by kernel_rfl) loop400L) [.v I, .v (.sl U)] (by decide) [] _ fun x r hw e => ?_
  obtain ⟨a, l⟩ := x
  cases e
  refine (r400L a l).trans ?_
  unfold lchkI lokB
  cases hc : (bif chkI a 1 != 0 then true else decide ((l.length : Int) > 1024)) with
  | true => rfl
  | false =>
    have hl : l.length ≤ 1024 := by
      cases h1 : chkI a 1 != 0 with
      | true => rw [h1] at hc; cases hc
      | false => rw [h1] at hc; have := of_decide_eq_false hc; omega
    simp only [cond_false, decide_true, Bool.true_and, decide_eq_true (show (l.length : Int) ≤ 9223372036854775807 by omega), cond_true, anyN_not, lbadA, Bool.not_not]
    cases anyN (fun i => lbad a l l i) l.length <;> rfl
end Go.AM.Seat
