/- The seat: contracts and plain laws, in order (cut out of all texts by a program). -/
import Derived.Test.YtoeijiackpanoaaDoorSl1
set_option linter.unusedVariables false
set_option linter.unusedSimpArgs false
set_option maxRecDepth 100000
namespace Go.AM.Seat
open Go Go.AM Go.Proofs

abbrev live338 : List (Nat × Dir) := [(1, .keep), (8, .arr I), (26, .keep), (27, .keep), (28, .keep)]
def vs338 (a : Int) (l out : List Int) (n i : Int) : List AV := [.one (.int .u64 a), .arr true I out, .one (.sl true U none l), .one (.int .i64 n), .one (.int .i64 i)]
def Γ338 : Orc := orc [(N374, s374), (N337, s337), (N370, s370)]
noncomputable abbrev lp338 (Λ : Lam AV) (K : AE → List AV → Option AV) (fuel : Nat) (vs : List AV) : Option AV := loopN (aexec tb Γ338 Λ ⟨48, 0, [(0, live338)]⟩ (loopK F338 0).2 0) 48 0 live338 K fuel vs
def bitO (x : Int) : Int := IntKind.i64.wrap (x.tmod 2)
def selB (a x : Int) : Bool := bif decide (x > a) then isI a x else false
def accL (a : Int) : List Int → List Int → List Int
  | [], out => out
  | x :: r, out => accL a r (bif selB a x then out ++ [bitO x] else out)
theorem step338 (a : Int) (l out : List Int) (n i : Int) (Λ : Lam AV) (fuel : Nat) (K : AE → List AV → Option AV) : lp338 Λ K (fuel + 1) (vs338 a l out n i) =
    bif decide (i < n) then bif inB i l.length then bif decide (1 ≤ iAt l i) || !boolBeq (decide (iAt l i > a)) true then
      bif selB a (iAt l i) then bif decide ((out.length + 1) * 8 ≤ 140737488355328) then lp338 Λ K fuel (vs338 a l (out ++ [bitO (iAt l i)]) n (IntKind.i64.wrap (i + 1))) else none
      else lp338 Λ K fuel (vs338 a l out n (IntKind.i64.wrap (i + 1)))
    else none else none else K (.exit 0) (vs338 a l out n i) := by kernel_rfl
def Λ338 : Lam AV := fun cur vs K =>
  match cur, vs with
  | 0, [.one (.int .u64 a), .arr true (.int .i64) [], .one (.sl true (.int .u64) none l), .one (.int .i64 n), .one (.int .i64 0)] =>
    bif decide (n = l.length) && decide (n ≤ 64) && decide (0 ≤ a) then K (.exit 0) (vs338 a l (accL a l []) n n) else none
  | _, _ => none
theorem sel_guard {a x : Int} (h : 0 ≤ a) : (decide (1 ≤ x) || !boolBeq (decide (x > a)) true) = true := by
  cases e : decide (x > a) with
  | false => cases decide (1 ≤ x) <;> rfl
  | true => have := of_decide_eq_true e; rw [decide_eq_true (show 1 ≤ x by omega)]; rfl
theorem iAt_drop {l : List Int} {j : Nat} (h : j < l.length) : l.drop j = iAt l j :: l.drop (j + 1) := by
  rw [List.drop_eq_getElem_cons h]
  simp [iAt, h]
theorem len8 {n : Nat} (h : n ≤ 5000) : decide ((n + 1) * 8 ≤ 140737488355328) = true := decide_eq_true (by omega)
theorem loop338 : LoopP tb Γ338 Λ338 ⟨48, 0, [(0, live338)]⟩ (loopK F338 0) := by
  intro vs K out e
  have hcur : (loopK F338 0).1 = 0 := by kernel_rfl
  rw [hcur] at e ⊢
  unfold Λ338 at e
  split at e
  · rename_i a l n _
    cases hc : (decide (n = l.length) && decide (n ≤ 64) && decide (0 ≤ a)) with
    | false => rw [hc] at e; cases e
    | true =>
      rw [hc] at e
      simp only [cond_true] at e
      simp only [Bool.and_eq_true, decide_eq_true_eq] at hc
      obtain ⟨⟨rfl, hn⟩, ha⟩ := hc
      refine upLoopI (α := List Int) (n := l.length) (F := fun fuel o i => lp338 Λ338 K fuel (vs338 a l o l.length i))
        (G := fun j o => K (.exit 0) (vs338 a l (accL a (l.drop j) o) l.length l.length)) (Inv := fun j o => o.length ≤ j) (fun fuel o => ?_) (fun o j hj hi => ?_) l.length 0 [] out (by omega) (Nat.le_refl 0) e
      · simp only [step338, nlt_dec, cond_false, List.drop_length, accL]
      · left
        refine ⟨bif selB a (iAt l j) then o ++ [bitO (iAt l j)] else o, by cases selB a (iAt l j) <;> simp <;> omega, fun fuel => ?_, ?_⟩
        · simp only [step338, lt_dec hj, inB_lt hj, cond_true, sel_guard ha, len8 (show o.length ≤ 5000 by omega)]
          rw [wrap64 (n := (j : Int) + 1) (by omega) (by omega)]
          cases selB a (iAt l j) <;> rfl
        · rw [iAt_drop hj, accL]
  · cases e
theorem r338 (h a b : Int) : run Γ338 Λ338 [(0, live338)] F338 (encA [.v I, .v U, .v U] (h, a, b)) [.sl true I] =
    bif (bif !mayN h a then true else !mayN h b) then some (rli [] 1) else bif decide (1 ≤ b) then bif !isI a b then some (rli [] 4) else bif decide (1 ≤ b) then
      bif decide (((chainN b.toNat).length : Int) = (chainN b.toNat).length) && decide (((chainN b.toNat).length : Int) ≤ 64) && decide (0 ≤ a) then some (rli (accL a (chainN b.toNat) []) 0) else none else none else none := by kernel_rfl
abbrev lvB : List (Nat × Dir) := [(0, .keep), (1, .keep), (10, .keep), (11, .arr Subset)]
abbrev live334 : List (Nat × List (Nat × Dir)) := [(0, lvB ++ [(43, .keep), (44, .keep), (45, .keep)]), (2, lvB ++ [(60, .keep), (61, .keep), (62, .keep)]), (4, lvB ++ [(14, .keep), (15, .keep), (60, .keep), (61, .keep), (62, .keep), (70, .keep), (71, .keep), (72, .keep)])]
def vsB (h k : Int) (l : List Int) (out : List Subset.D) : List AV := [.one (.int .i64 h), .one (.int .i64 k), .one (.sl true U none l), .arr true Subset out]
def inL (h k top : Int) : List Int → List Subset.D → List Subset.D
  | [], out => out
  | x :: r, out => inL h k top r (bif (bif k == 2 then true else (useI h (top, (othI h x).1)).1) then out ++ [(top, (othI h x).1)] else out)
def outL (h k : Int) : List Int → List Subset.D → List Subset.D
  | [], out => out
  | x :: r, out => outL h k r (inL h k x r out)
def wL (l : List Int) : List Subset.D := l.map fun x => (x, 0)
def vsW (h k : Int) (l l' : List Int) (out : List Subset.D) (n i : Int) : List AV := vsB h k l out ++ [.one (.sl true U none l'), .one (.int .i64 n), .one (.int .i64 i)]
def vsI (h k : Int) (l : List Int) (out : List Subset.D) (t top : Int) (l2 : List Int) (n i : Int) (l' : List Int) (n' i' : Int) : List AV := vsB h k l out ++ [.one (.int .i64 t), .one (.int .u64 top), .one (.sl true U none l2), .one (.int .i64 n), .one (.int .i64 i), .one (.sl true U none l'), .one (.int .i64 n'), .one (.int .i64 i')]
def cI (l' : List Int) (n' : Int) (out : List Subset.D) : Bool := decide (n' = l'.length) && decide (n' ≤ 64) && decide (out.length ≤ 4500)
def Λ334 : Lam AV := fun cur vs K =>
  match cur, vs with
  | 0, [.one (.int .i64 h), .one (.int .i64 k), .one (.sl true (.int .u64) none l), .arr true (.pair (.int .u64) (.int .u64)) [], .one (.sl true (.int .u64) none l'), .one (.int .i64 n), .one (.int .i64 0)] =>
    bif decide (n = l'.length) && decide (n ≤ 64) then K (.exit 0) (vsW h k l l' (wL l') n n) else none
  | 2, [.one (.int .i64 h), .one (.int .i64 k), .one (.sl true (.int .u64) none l), .arr true (.pair (.int .u64) (.int .u64)) out, .one (.sl true (.int .u64) none l'), .one (.int .i64 n), .one (.int .i64 0)] =>
    bif decide (n = l'.length) && decide (n ≤ 64) && decide (l' = l) && decide (out.length ≤ 1) then K (.exit 2) (vsW h k l l' (outL h k l' out) n n) else none
  | 4, [.one (.int .i64 h), .one (.int .i64 k), .one (.sl true (.int .u64) none l), .arr true (.pair (.int .u64) (.int .u64)) out, .one (.int .i64 t), .one (.int .u64 top), .one (.sl true (.int .u64) none l2), .one (.int .i64 n), .one (.int .i64 i), .one (.sl true (.int .u64) none l'), .one (.int .i64 n'), .one (.int .i64 0)] =>
    bif cI l' n' out then K (.exit 4) (vsI h k l (inL h k top l' out) t top l2 n i l' n' n') else none
  | _, _ => none
theorem inL_len (h k top : Int) : ∀ (l : List Int) (out : List Subset.D), (inL h k top l out).length ≤ out.length + l.length := by
  intro l
  induction l with
  | nil => intro out; exact Nat.le_refl _
  | cons x l ih =>
    intro out
    refine Nat.le_trans (ih _) ?_
    cases (bif k == 2 then true else (useI h (top, (othI h x).1)).1) <;> simp <;> omega
def refP (h k i : Int) : Option AV :=
  bif (bif bif (leafI h i).2 != 0 then true else decide (k < 1) then true else decide (k > 3)) then some (rls [] 1) else bif decide (1 ≤ (leafI h i).1) then
    bif k == 1 then bif decide (((chainN (leafI h i).1.toNat).length : Int) = (chainN (leafI h i).1.toNat).length) && decide (((chainN (leafI h i).1.toNat).length : Int) ≤ 64) then some (rls (wL (chainN (leafI h i).1.toNat)) 0) else none
    else bif decide (((chainN (leafI h i).1.toNat).length : Int) = (chainN (leafI h i).1.toNat).length) && decide (((chainN (leafI h i).1.toNat).length : Int) ≤ 64) && decide (chainN (leafI h i).1.toNat = chainN (leafI h i).1.toNat) && decide (([(1, 0)] : List Subset.D).length ≤ 1) then
      some (rls (outL h k (chainN (leafI h i).1.toNat) [(1, 0)]) 0) else none else none

theorem idxS_at {s : Subset.D} : ∀ {l : List Subset.D} {i : Int}, 0 ≤ i → ¬ idxS s l i < 0 → i ≤ idxS s l i ∧ idxS s l i < i + l.length ∧ l.getD (idxS s l i - i).toNat (0, 0) = s := by
  intro l
  induction l with
  | nil => intro i hi h; exact absurd (show (-1 : Int) < 0 by decide) h
  | cons x l ih =>
    intro i hi h
    simp only [idxS] at h ⊢
    cases hx : s.1 == x.1 && s.2 == x.2 with
    | true =>
      simp only [Bool.and_eq_true, beq_iff_eq] at hx
      simp only [cond_true]
      refine ⟨Int.le_refl i, by simp only [List.length_cons]; omega, ?_⟩
      rw [show (i - i).toNat = 0 by omega]
      exact Prod.ext hx.1.symm hx.2.symm
    | false =>
      rw [hx] at h
      simp only [cond_false] at h ⊢
      obtain ⟨h1, h2, h3⟩ := ih (show 0 ≤ i + 1 by omega) h
      refine ⟨by omega, by simp only [List.length_cons]; omega, ?_⟩
      rw [show (idxS s l (i + 1) - i).toNat = (idxS s l (i + 1) - (i + 1)).toNat + 1 by omega]
      exact h3
theorem idxS_ok {s : Subset.D} {l : List Subset.D} (h : ¬ idxS s l 0 < 0) : 0 ≤ idxS s l 0 ∧ idxS s l 0 < l.length ∧ sAt l (idxS s l 0) = s ∧ s ∈ l := by
  obtain ⟨h1, h2, h3⟩ := idxS_at (Int.le_refl 0) h
  rw [Int.sub_zero] at h3
  refine ⟨h1, by omega, h3, ?_⟩
  rw [← h3, List.getD_eq_getElem?_getD, List.getElem?_eq_getElem (show (idxS s l 0).toNat < l.length by omega)]
  exact List.getElem_mem _
theorem inG_mem {h k leaf : Int} {t : Nat} {x : Subset.D} : ∀ {m d : Nat} {out : List Subset.D}, x ∈ inG h k leaf t m d out → x ∈ out ∨ ∃ d', d ≤ d' ∧ d' < d + m ∧ x = prP h leaf t d' := by
  intro m
  induction m with
  | zero => intro d out hx; exact .inl hx
  | succ m ih =>
    intro d out hx
    rcases ih hx with h1 | ⟨d', a, b, c⟩
    · cases hk : keepB h k (prP h leaf t d) with
      | false => rw [hk] at h1; exact .inl h1
      | true =>
        rw [hk] at h1
        rcases List.mem_append.1 h1 with h1 | h1
        · exact .inl h1
        · exact .inr ⟨d, Nat.le_refl d, by omega, List.mem_singleton.1 h1⟩
    · exact .inr ⟨d', by omega, by omega, c⟩
theorem outG_mem {h k leaf : Int} {x : Subset.D} : ∀ {m t : Nat} {out : List Subset.D}, t + m = h.toNat → x ∈ outG h k leaf m t out → x ∈ out ∨ ∃ t' d : Nat, t' < d ∧ d ≤ h.toNat ∧ x = prP h leaf t' d := by
  intro m
  induction m with
  | zero => intro t out _ hx; exact .inl hx
  | succ m ih =>
    intro t out ht hx
    rcases ih (by omega) hx with h1 | h1
    · rcases inG_mem h1 with h1 | ⟨d, a, b, c⟩
      · exact .inl h1
      · exact .inr ⟨t, d, by omega, by omega, c⟩
    · exact .inr h1
theorem xor_nat {a : Nat} (ha : a < 2 ^ 64) : xorI a 1 = ((a ^^^ 1 : Nat) : Int) := by
  unfold xorI
  have e1 : (BitVec.ofInt 64 (a : Int)).toNat = a := by rw [BitVec.toNat_ofInt]; omega
  have e2 : (BitVec.ofInt 64 (1 : Int)).toNat = 1 := by decide
  rw [BitVec.toNat_xor, e1, e2, wrapU]
  · omega
  · have := Nat.xor_lt_two_pow ha (show 1 < 2 ^ 64 by decide); omega
theorem leafN_lt {h i : Nat} (h2 : h ≤ 32) (hi : i < 2 ^ h) : leafN h i < 2 ^ 34 := by
  have := pow32 h2
  unfold leafN; omega
theorem prP_nat {H i t d : Nat} (h2 : H ≤ 32) (hi : i < 2 ^ H) (ht : t < d) (hd : d ≤ H) :
    prP (H : Int) ((leafN H i : Nat) : Int) t d = (((leafN H i / 2 ^ (H - t) : Nat) : Int), (((leafN H i / 2 ^ (H - d)) ^^^ 1 : Nat) : Int)) := by
  have hl := leafN_lt h2 hi
  have e1 : (H : Int) - (t : Int) = ((H - t : Nat) : Int) := by omega
  have e2 : (H : Int) - (d : Int) = ((H - d : Nat) : Int) := by omega
  unfold prP
  rw [e1, e2, shr_nat (by omega) (by omega), shr_nat (by omega) (by omega), Int.toNat_natCast, Int.toNat_natCast, Int.toNat_natCast, xor_nat (Nat.lt_of_le_of_lt (Nat.div_le_self _ _) (by omega))]
/-- A pair of a leaf's that is below some node has the leaf. -/
theorem pairs_has {h k i : Int} {p : Subset.D} (hi : IntKind.u64.has i) (hn : noPr h k i = false) (hk : k ≠ 1) (hp : p ∈ (pairsL h k i).1) (h0 : p.2 ≠ 0) : hasI h p i = (true, 0) := by
  obtain ⟨n1, n2⟩ := noPr_ok hn
  obtain ⟨m1, m2, _, _, _⟩ := many_ok n1
  obtain ⟨c0, c1, c2⟩ := hasU hi
  have hl : leafOk h.toNat i.toNat = true := by
    rw [← leaf_err c0 c1]
    unfold bne at n2
    simpa using n2
  obtain ⟨l1, l2, l3⟩ := leafOk_iff.1 hl
  have el : (leafI h i).1 = ((leafN h.toNat i.toNat : Nat) : Int) := by
    rw [leaf_nat c0 c1]; unfold leafV
    rw [decide_eq_true l1, decide_eq_true l2, decide_eq_true l3]; rfl
  obtain ⟨H, rfl⟩ := Int.eq_ofNat_of_zero_le (show 0 ≤ h by omega)
  rw [Int.toNat_natCast] at l1 l2 l3 el hl
  unfold pairsL at hp
  rw [hn, show (k == 1) = false by simpa using hk] at hp
  simp only [cond_false] at hp
  rcases outG_mem (by omega) hp with h1 | ⟨t, d, ht, hd, rfl⟩
  · rw [List.mem_singleton] at h1
    rw [h1] at h0
    exact absurd rfl h0
  · rw [Int.toNat_natCast] at hd
    rw [el, prP_nat l2 l3 ht hd]
    obtain ⟨q1, q2⟩ := pair_has l1 l2 l3 ht hd
    have hb := leafN_lt l2 l3
    have b1 : leafN H i.toNat / 2 ^ (H - t) < 2 ^ 64 := Nat.lt_of_le_of_lt (Nat.div_le_self _ _) (by omega)
    have b2 : (leafN H i.toNat / 2 ^ (H - d)) ^^^ 1 < 2 ^ 64 := Nat.xor_lt_two_pow (Nat.lt_of_le_of_lt (Nat.div_le_self _ _) (by omega)) (by decide)
    have u : ∀ {n : Nat}, n < 2 ^ 64 → IntKind.u64.has (n : Int) := fun {n} hn => ⟨by show (0 : Int) ≤ n; omega, by show (n : Int) ≤ 18446744073709551615; omega⟩
    rw [has_nat (s := (_, _)) (u b1) (u b2) hi]
    simp only [Int.toNat_natCast]
    rw [q1, q2, hl]; rfl
theorem atI_ok {l : List Subset.D} {s : Subset.D} {x : List Int} (h : (atI l s x).2.2 = 0) : ¬ idxS s l 0 < 0 ∧ atI l s x = (idxS s l 0, x, 0) := by
  unfold atI at h ⊢
  cases hd : decide (idxS s l 0 < 0) with
  | true => rw [hd] at h; cases h
  | false => exact ⟨of_decide_eq_false hd, rfl⟩
theorem atI_err {l : List Subset.D} {s : Subset.D} {x : List Int} (h : (atI l s x).2.2 ≠ 0) : (atI l s x).2.1 = [] := by
  unfold atI at h ⊢
  cases hd : decide (idxS s l 0 < 0) with
  | true => rfl
  | false => rw [hd] at h; exact absurd rfl h
theorem entry_err {h k i : Int} {s : Subset.D} (he : (entryI h k i s).2.2 ≠ 0) : (entryI h k i s).2.1 = [] := by
  unfold entryI at he ⊢
  cases h1 : noEn h k i s with
  | true => rfl
  | false =>
    cases h2 : (hasI h s i).2 != 0 with
    | true => rfl
    | false =>
      cases h3 : (hasI h s i).1 with
      | false => rfl
      | true =>
        rw [h1, h2, h3] at he
        cases h4 : s.2 != 0 with
        | false => rw [h4] at he; exact atI_err he
        | true =>
          rw [h4] at he
          cases h5 : (besI h (leafI h i).1 s.2).2 != 0 with
          | true => rfl
          | false =>
            rw [h5] at he
            cases h6 : (pathI h (fromJ h i s) s.2).2 != 0 with
            | true => rfl
            | false => rw [h6] at he; exact atI_err he
theorem ne_of {a : Int} (h : (a != 0) = true) : a ≠ 0 := by simpa using h
theorem entry_ok {h k i : Int} {s : Subset.D} (he : (entryI h k i s).2.2 = 0) : noEn h k i s = false ∧ (hasI h s i).1 = true ∧
    ((s.2 = 0 ∧ ¬ idxS s (pairsL h k i).1 0 < 0 ∧ entryI h k i s = (idxS s (pairsL h k i).1 0, [], 0)) ∨
     (s.2 ≠ 0 ∧ (besI h (leafI h i).1 s.2).2 = 0 ∧ (pathI h (fromJ h i s) s.2).2 = 0 ∧ ¬ idxS (s.1, fromJ h i s) (pairsL h k i).1 0 < 0 ∧ entryI h k i s = (idxS (s.1, fromJ h i s) (pairsL h k i).1 0, (pathI h (fromJ h i s) s.2).1, 0))) := by
  unfold entryI at he ⊢
  cases h1 : noEn h k i s with
  | true => rw [h1] at he; cases he
  | false =>
    cases h2 : (hasI h s i).2 != 0 with
    | true => rw [h1, h2] at he; exact absurd he (ne_of h2)
    | false =>
      cases h3 : (hasI h s i).1 with
      | false => rw [h1, h2, h3] at he; cases he
      | true =>
        rw [h1, h2, h3] at he
        refine ⟨rfl, rfl, ?_⟩
        cases h4 : s.2 != 0 with
        | false =>
          rw [h4] at he
          obtain ⟨a, b⟩ := atI_ok he
          exact .inl ⟨by simpa using h4, a, b⟩
        | true =>
          rw [h4] at he
          cases h5 : (besI h (leafI h i).1 s.2).2 != 0 with
          | true => rw [h5] at he; exact absurd he (ne_of h5)
          | false =>
            rw [h5] at he
            cases h6 : (pathI h (fromJ h i s) s.2).2 != 0 with
            | true => rw [h6] at he; exact absurd he (ne_of h6)
            | false =>
              rw [h6] at he
              obtain ⟨a, b⟩ := atI_ok he
              exact .inr ⟨ne_of h4, by simpa using h5, by simpa using h6, a, b⟩
theorem noEn_ok {h k i : Int} {s : Subset.D} (e : noEn h k i s = false) : (pairsL h k i).2 = 0 ∧ noPr h k i = false ∧ mayI h k s = (true, 0) := by
  unfold noEn at e
  cases h1 : (pairsL h k i).2 != 0 with
  | true => rw [h1] at e; cases e
  | false =>
    cases h2 : (leafI h i).2 != 0 with
    | true => rw [h1, h2] at e; cases e
    | false =>
      cases h3 : (mayI h k s).2 != 0 with
      | true => rw [h1, h2, h3] at e; cases e
      | false =>
        rw [h1, h2, h3] at e
        have h1' : (pairsL h k i).2 = 0 := by simpa using h1
        refine ⟨h1', ?_, Prod.ext (by simpa using e) (by simpa using h3)⟩
        cases hn : noPr h k i with
        | false => rfl
        | true => unfold pairsL at h1'; rw [hn] at h1'; cases h1'
theorem may_whole {h : Int} {s : Subset.D} (e : mayI h 1 s = (true, 0)) : s.2 = 0 := by
  unfold mayI at e
  cases hm : mayB3 h 1 s with
  | true => rw [hm] at e; cases e
  | false => rw [hm] at e; simpa using congrArg Prod.fst e
theorem path_ne {h b : Int} : (pathI h 0 b).2 ≠ 0 := by
  unfold pathI bothI both
  have : (chkI h 0 != 0) = true := by
    unfold chkI badN
    cases highB h <;> rfl
  rw [this]; exact (by decide : (1 : Int) ≠ 0)
/-- THE LAW. -/
theorem sides_true (h k i : Int) (s : Subset.D) (hi : IntKind.u64.has i) : sides1 h k i s (entryI h k i s) (pairsL h k i).1 = oB true := by
  unfold sides1
  by_cases he : (entryI h k i s).2.2 = 0
  · obtain ⟨n1, n2, n3⟩ := entry_ok he
    obtain ⟨p1, p2, p3⟩ := noEn_ok n1
    rw [show ((entryI h k i s).2.2 != 0) = false by simp [he], show ((pairsL h k i).2 != 0) = false by simp [p1]]
    simp only [cond_false]
    rcases n3 with ⟨s0, m1, m2⟩ | ⟨s0, b0, m0, m1, m2⟩
    · obtain ⟨q1, q2, q3, q4⟩ := idxS_ok m1
      rw [m2]
      simp only
      rw [decide_eq_false (show ¬ idxS s (pairsL h k i).1 0 < 0 from m1), decide_eq_false (show ¬ idxS s (pairsL h k i).1 0 ≥ ((pairsL h k i).1.length : Int) by omega)]
      simp only [cond_false]
      unfold sides2
      have hb : inB (idxS s (pairsL h k i).1 0) (pairsL h k i).1.length = true := by simp only [inB, Bool.and_eq_true, decide_eq_true_eq]; exact ⟨q1, q2⟩
      simp only [q3, hb, cond_true]
      rw [show (s.1 != s.1) = false from bne_self_eq_false s.1, show (s.2 == 0) = true by rw [s0]; rfl, show (s.1 == s.1 && s.2 == s.2) = true by simp]
      rfl
    · obtain ⟨q1, q2, q3, q4⟩ := idxS_ok m1
      rw [m2]
      simp only
      rw [decide_eq_false (show ¬ idxS (s.1, fromJ h i s) (pairsL h k i).1 0 < 0 from m1), decide_eq_false (show ¬ idxS (s.1, fromJ h i s) (pairsL h k i).1 0 ≥ ((pairsL h k i).1.length : Int) by omega)]
      simp only [cond_false]
      unfold sides2
      have hb : inB (idxS (s.1, fromJ h i s) (pairsL h k i).1 0) (pairsL h k i).1.length = true := by simp only [inB, Bool.and_eq_true, decide_eq_true_eq]; exact ⟨q1, q2⟩
      simp only [q3, hb, cond_true]
      have hk : k ≠ 1 := by
        rintro rfl
        exact s0 (may_whole p3)
      have hf : fromJ h i s ≠ 0 := by
        intro h0
        rw [h0] at m0
        exact path_ne m0
      have hh := pairs_has hi p2 hk q4 hf
      rw [show (s.1 != s.1) = false from bne_self_eq_false s.1, show (s.2 == 0) = false by simpa using s0]
      simp only [cond_false]
      unfold sides3
      rw [hh, m0]
      simp only [beq_self_eq_true, cond_true]
      rw [show sameI (pathI h (fromJ h i s) s.2).1 (pathI h (fromJ h i s) s.2).1 = true from decide_eq_true rfl]
  · rw [show ((entryI h k i s).2.2 != 0) = true by simpa using he, entry_err he]
    rfl

theorem chain_at {L d : Nat} (h : d ≤ L.log2) : iAt (chainN L) (d : Int) = ((L / 2 ^ (L.log2 - d) : Nat) : Int) := by
  unfold iAt chainN
  rw [Int.toNat_natCast, List.getD_eq_getElem?_getD, List.getElem?_map, List.getElem?_range (by omega)]
  rfl
theorem wG_eq {h leaf : Int} : ∀ (m j : Nat) (out : List (Int × Int)), wG h leaf m j out = out ++ (List.range m).map fun i => (shrI leaf (h - ((j + i : Nat) : Int)), 0) := by
  intro m
  induction m with
  | zero => intro j out; simp [wG]
  | succ m ih =>
    intro j out
    rw [wG, ih, List.range_succ_eq_map, List.map_cons, List.map_map, List.append_assoc]
    congr 1
    show _ = [(shrI leaf (h - ((j + 0 : Nat) : Int)), 0)] ++ _
    congr 1
    apply List.map_congr_left
    intro i _
    show (shrI leaf (h - ((j + 1 + i : Nat) : Int)), (0 : Int)) = (shrI leaf (h - ((j + (i + 1) : Nat) : Int)), 0)
    rw [show j + 1 + i = j + (i + 1) by omega]
/-- A leaf's numbers. -/
structure LeafAt (H x : Nat) : Prop where
  h1 : 1 ≤ H
  h2 : H ≤ 32
  hx : x < 2 ^ H
theorem LeafAt.log {H x : Nat} (a : LeafAt H x) : (leafN H x).log2 = H := leafN_log2 a.hx
theorem LeafAt.lt {H x : Nat} (a : LeafAt H x) : leafN H x < 2 ^ 34 := leafN_lt a.h2 a.hx
theorem LeafAt.shr {H x d : Nat} (a : LeafAt H x) (hd : d ≤ H) : shrI ((leafN H x : Nat) : Int) ((H : Int) - (d : Int)) = iAt (chainN (leafN H x)) (d : Int) := by
  rw [chain_at (by rw [a.log]; exact hd), a.log, show (H : Int) - (d : Int) = ((H - d : Nat) : Int) by omega, shr_nat (by omega) (by have := a.h2; omega), Int.toNat_natCast, Int.toNat_natCast]
theorem LeafAt.len {H x : Nat} (a : LeafAt H x) : (chainN (leafN H x)).length = H + 1 := by rw [chainN_len, a.log]
theorem LeafAt.whole {H x : Nat} (a : LeafAt H x) : wG (H : Int) ((leafN H x : Nat) : Int) (H + 1) 0 [] = wL (chainN (leafN H x)) := by
  rw [wG_eq, List.nil_append]
  unfold wL chainN
  rw [a.log, List.map_map]
  apply List.map_congr_left
  intro d hd
  have hd := List.mem_range.1 hd
  show (shrI _ ((H : Int) - ((0 + d : Nat) : Int)), (0 : Int)) = (((leafN H x / 2 ^ (H - d) : Nat) : Int), 0)
  rw [Nat.zero_add, a.shr (by omega), chain_at (by rw [a.log]; omega), a.log]
theorem U64 {n : Nat} (h : n < 2 ^ 64) : IntKind.u64.has (n : Int) := ⟨by show (0 : Int) ≤ n; omega, by show (n : Int) ≤ 18446744073709551615; omega⟩
theorem LeafAt.pr {H x t d : Nat} (a : LeafAt H x) (ht : t < d) (hd : d ≤ H) (k : Int) (hk : k = 2 ∨ k = 3) :
    prP (H : Int) ((leafN H x : Nat) : Int) t d = (iAt (chainN (leafN H x)) (t : Int), (othI (H : Int) (iAt (chainN (leafN H x)) (d : Int))).1) ∧
    keepB (H : Int) k (prP (H : Int) ((leafN H x : Nat) : Int) t d) = (bif k == 2 then true else (useI (H : Int) (prP (H : Int) ((leafN H x : Nat) : Int) t d)).1) := by
  have hl := a.log
  have hb := a.lt
  have hne := leafN_ne (h := H) (i := x)
  have ec : ∀ {y : Nat}, y ≤ H → iAt (chainN (leafN H x)) (y : Int) = ((leafN H x / 2 ^ (H - y) : Nat) : Int) := fun {y} hy => by rw [chain_at (by rw [hl]; exact hy), hl]
  have ep := prP_nat a.h2 a.hx ht hd
  obtain ⟨q1, q2⟩ := pair_has a.h1 a.h2 a.hx ht hd
  have b1 : leafN H x / 2 ^ (H - t) < 2 ^ 64 := Nat.lt_of_le_of_lt (Nat.div_le_self _ _) (by omega)
  have b0 : leafN H x / 2 ^ (H - d) < 2 ^ 64 := Nat.lt_of_le_of_lt (Nat.div_le_self _ _) (by omega)
  have b2 : (leafN H x / 2 ^ (H - d)) ^^^ 1 < 2 ^ 64 := Nat.xor_lt_two_pow b0 (by decide)
  have nd : leafN H x / 2 ^ (H - d) ≠ 0 := div_pos hne (by rw [hl]; omega)
  have ld : (leafN H x / 2 ^ (H - d)).log2 = d := by rw [log2_div hne (by rw [hl]; omega), hl]; omega
  have nd2 : 2 ≤ leafN H x / 2 ^ (H - d) := by
    have := log2_le nd
    rw [ld] at this
    have : 2 ^ 1 ≤ 2 ^ d := Nat.pow_le_pow_right (by decide) (by omega)
    omega
  have hz1 : (((leafN H x / 2 ^ (H - d) : Nat) : Int) == 1) = false := beq_eq_false_iff_ne.2 (fun e => absurd (show leafN H x / 2 ^ (H - d) = 1 by exact_mod_cast e) (by omega))
  have eo : (othI (H : Int) (((leafN H x / 2 ^ (H - d) : Nat) : Int))).1 = (((leafN H x / 2 ^ (H - d)) ^^^ 1 : Nat) : Int) := by
    unfold othI mayN
    rw [Int.toNat_natCast, Int.toNat_natCast, okN_iff.2 ⟨a.h1, a.h2, by omega, (okN_log nd).2 (by omega)⟩, hz1]
    simp only [Bool.not_true, cond_false]
    exact xor_nat b0
  refine ⟨by rw [ep, ec (show t ≤ H by omega), ec hd, eo], ?_⟩
  rw [ep]
  have nx : (leafN H x / 2 ^ (H - d)) ^^^ 1 ≠ 0 := by
    intro h0
    have := xor_one_log2 nd2
    rw [h0, Nat.log2_zero, ld] at this
    omega
  have hz : ((((leafN H x / 2 ^ (H - d)) ^^^ 1 : Nat) : Int) == 0) = false := beq_eq_false_iff_ne.2 (fun e => nx (by exact_mod_cast e))
  obtain ⟨_, _, _, _, _, u6⟩ := use_ok (h := (H : Int)) (s := (((leafN H x / 2 ^ (H - t) : Nat) : Int), (((leafN H x / 2 ^ (H - d)) ^^^ 1 : Nat) : Int))) (U64 b1) (U64 b2) (by simp only [Int.toNat_natCast]; exact q1) hz
  unfold keepB
  rw [u6]
  rcases hk with rfl | rfl
  · rfl
  · cases (bif spB (depI ((leafN H x / 2 ^ (H - t) : Nat) : Int)) (stepN (H : Int)) (H : Int) then true else decide (depI (((leafN H x / 2 ^ (H - d)) ^^^ 1 : Nat) : Int) ≤ nxI (depI ((leafN H x / 2 ^ (H - t) : Nat) : Int)) (stepN (H : Int)) (H : Int))) <;> rfl
theorem LeafAt.inner {H x t : Nat} (a : LeafAt H x) (k : Int) (hk : k = 2 ∨ k = 3) : ∀ (m d : Nat) (out : List (Int × Int)), t < d → d + m = H + 1 →
    inG (H : Int) k ((leafN H x : Nat) : Int) t m d out = inL (H : Int) k (iAt (chainN (leafN H x)) (t : Int)) ((chainN (leafN H x)).drop d) out := by
  intro m
  induction m with
  | zero => intro d out _ hd; rw [List.drop_of_length_le (by rw [a.len]; omega)]; rfl
  | succ m ih =>
    intro d out ht hd
    obtain ⟨e1, e2⟩ := a.pr ht (show d ≤ H by omega) k hk
    rw [inG, ih (d + 1) _ (by omega) (by omega), iAt_drop (j := d) (by rw [a.len]; omega), inL, e2, ← e1]
theorem LeafAt.outer {H x : Nat} (a : LeafAt H x) (k : Int) (hk : k = 2 ∨ k = 3) : ∀ (m t : Nat) (out : List (Int × Int)), t + m = H →
    outG (H : Int) k ((leafN H x : Nat) : Int) m t out = outL (H : Int) k ((chainN (leafN H x)).drop t) out := by
  intro m
  induction m with
  | zero =>
    intro t out ht
    rw [iAt_drop (j := t) (by rw [a.len]; omega), List.drop_of_length_le (by rw [a.len]; omega)]; rfl
  | succ m ih =>
    intro t out ht
    rw [outG, ih (t + 1) _ (by omega), iAt_drop (j := t) (by rw [a.len]; omega), outL, Int.toNat_natCast, a.inner k hk (H - t) (t + 1) out (by omega) (by omega)]
theorem many_zero {h k : Int} (h1 : highB h = true) (hk : 1 ≤ k ∧ k ≤ 3) : (manyV h k).2 = 0 := by
  have c0 : (chkI h 1 != 0) = false := by
    have := highB_iff.1 h1
    rw [chk_ne (by decide)]
    show (!okN h.toNat 1) = false
    rw [okN_one, decide_eq_true (show 1 ≤ h.toNat by omega), decide_eq_true (show h.toNat ≤ 32 by omega)]; rfl
  have e0 : stepI h = (stepN h, 0) := by unfold stepI; rw [c0]; rfl
  have e1 : (pairsI h).2 = 0 := by unfold pairsI; rw [e0]; rfl
  unfold manyV
  rw [e1]
  have : k = 1 ∨ k = 2 ∨ k = 3 := by omega
  rcases this with rfl | rfl | rfl <;> rfl
theorem len64 {l : List Int} (h : l.length ≤ 64) : (decide ((l.length : Int) = l.length) && decide ((l.length : Int) ≤ 64)) = true := by
  rw [decide_eq_true (show ((l.length : Int)) = l.length from rfl), decide_eq_true (show (l.length : Int) ≤ 64 by omega)]; rfl
theorem refP_eq {h k i : Int} (hi : IntKind.u64.has i) : refP h k i = some (rls (pairsL h k i).1 (pairsL h k i).2) := by
  obtain ⟨c0, c1, c2⟩ := hasU hi
  unfold refP pairsL noPr
  cases hl : (leafI h i).2 != 0 with
  | true =>
    have : (bif (manyV h k).2 != 0 then true else true) = true := by cases (manyV h k).2 != 0 <;> rfl
    rw [this]; rfl
  | false =>
    have hlo : leafOk h.toNat i.toNat = true := by rw [leaf_ne c0 c1] at hl; simpa using hl
    obtain ⟨l1, l2, l3⟩ := leafOk_iff.1 hlo
    have hh : highB h = true := highB_iff.2 (by omega)
    by_cases hk : 1 ≤ k ∧ k ≤ 3
    · rw [many_zero hh hk, decide_eq_false (show ¬ k < 1 by omega), decide_eq_false (show ¬ k > 3 by omega)]
      have ev := leaf_val c0 c1 hlo
      obtain ⟨H, rfl⟩ := Int.eq_ofNat_of_zero_le (show 0 ≤ h by omega)
      rw [Int.toNat_natCast] at l1 l2 l3 ev
      rw [ev, Int.toNat_natCast, Int.toNat_natCast]
      have a : LeafAt H i.toNat := ⟨l1, l2, l3⟩
      have hp := leafN_ne (h := H) (i := i.toNat)
      rw [decide_eq_true (show (1 : Int) ≤ ((leafN H i.toNat : Nat) : Int) by omega), len64 (by rw [a.len]; omega), decide_eq_true (show chainN (leafN H i.toNat) = chainN (leafN H i.toNat) from rfl), decide_eq_true (show ([(1, 0)] : List (Int × Int)).length ≤ 1 from Nat.le_refl 1)]
      cases k1 : k == 1 with
      | true => rw [a.whole]; rfl
      | false =>
        have k1 : k ≠ 1 := by simpa using k1
        rw [a.outer k (by omega) H 0 _ (by omega), List.drop_zero]; rfl
    · have e1 : ((manyV h k).2 != 0) = true := by
        cases e : (manyV h k).2 != 0 with
        | true => rfl
        | false => exact absurd (many_ok e).2.2.1 (by omega)
      have e2 : (bif bif false then true else decide (k < 1) then true else decide (k > 3)) = true := by
        cases e : decide (k < 1) with
        | true => rfl
        | false => have := of_decide_eq_false e; exact decide_eq_true (by omega)
      rw [e1, e2]; rfl
theorem accL_eq (a : Int) : ∀ (l out : List Int), accL a l out = out ++ (l.filter (selB a)).map bitO := by
  intro l
  induction l with
  | nil => intro out; simp [accL]
  | cons x l ih =>
    intro out
    rw [accL, ih]
    cases hx : selB a x with
    | true => rw [List.filter_cons_of_pos hx]; simp
    | false => rw [List.filter_cons_of_neg (by rw [hx]; decide)]; simp
theorem sel_at {a b d : Nat} (ha : a ≠ 0) (hb : b ≠ 0) (h : abv a b = true) (hd : d ≤ b.log2) : selB (a : Int) ((b / 2 ^ (b.log2 - d) : Nat) : Int) = decide (a.log2 < d) := by
  obtain ⟨h1, h2⟩ := abv_iff.1 h
  have hx : b / 2 ^ (b.log2 - d) ≠ 0 := div_pos hb (by omega)
  have lx : (b / 2 ^ (b.log2 - d)).log2 = d := by rw [log2_div hb (by omega)]; omega
  have x1 := log2_le hx
  have x2 := lt_log2 (n := b / 2 ^ (b.log2 - d))
  rw [lx] at x1 x2
  have a1 := log2_le ha
  have a2 := lt_log2 (n := a)
  unfold selB isI
  rw [Int.toNat_natCast, Int.toNat_natCast]
  rcases Nat.lt_trichotomy a.log2 d with hc | hc | hc
  · have : 2 ^ (a.log2 + 1) ≤ 2 ^ d := Nat.pow_le_pow_right (by decide) hc
    rw [decide_eq_true hc, decide_eq_true (by omega)]
    refine abv_iff.2 ⟨by omega, ?_⟩
    rw [lx, div_div_pow, show b.log2 - d + (d - a.log2) = b.log2 - a.log2 by omega, h2]
  · subst hc
    rw [h2, decide_eq_false (show ¬ (a : Int) > (a : Int) by omega), decide_eq_false (show ¬ a.log2 < a.log2 by omega)]; rfl
  · have : 2 ^ (d + 1) ≤ 2 ^ a.log2 := Nat.pow_le_pow_right (by decide) hc
    rw [decide_eq_false (show ¬ a.log2 < d by omega), decide_eq_false (by omega)]; rfl
theorem filter_range {A B : Nat} (h : A ≤ B) : (List.range (B + 1)).filter (fun d => decide (A < d)) = (List.range (B - A)).map (fun m => A + 1 + m) := by
  rw [show B + 1 = (A + 1) + (B - A) by omega, List.range_add, List.filter_append]
  have e1 : (List.range (A + 1)).filter (fun d => decide (A < d)) = [] := by
    rw [List.filter_eq_nil_iff]
    intro d hd
    have := List.mem_range.1 hd
    simp; omega
  rw [e1, List.nil_append, List.filter_eq_self.2]
  intro x hx
  obtain ⟨m, _, rfl⟩ := List.mem_map.1 hx
  simp; omega
theorem accL_chain {a b : Nat} (ha : a ≠ 0) (hb : b ≠ 0) (h : abv a b = true) : accL a (chainN b) [] = (List.range (b.log2 - a.log2)).map fun m => ((b / 2 ^ (b.log2 - a.log2 - 1 - m) % 2 : Nat) : Int) := by
  have h1 := (abv_iff.1 h).1
  rw [accL_eq, List.nil_append]
  unfold chainN
  rw [List.filter_map]
  have e : (List.range (b.log2 + 1)).filter (selB (a : Int) ∘ fun d => ((b / 2 ^ (b.log2 - d) : Nat) : Int)) = (List.range (b.log2 + 1)).filter (fun d => decide (a.log2 < d)) := by
    apply List.filter_congr
    intro d hd
    exact sel_at ha hb h (by have := List.mem_range.1 hd; omega)
  rw [e, filter_range h1, List.map_map, List.map_map]
  apply List.map_congr_left
  intro m hm
  have hm := List.mem_range.1 hm
  show bitO ((b / 2 ^ (b.log2 - (a.log2 + 1 + m)) : Nat) : Int) = _
  rw [show b.log2 - (a.log2 + 1 + m) = b.log2 - a.log2 - 1 - m by omega]
  unfold bitO
  generalize b / 2 ^ (b.log2 - a.log2 - 1 - m) = x
  rw [Int.tmod_eq_emod_of_nonneg (by omega), wrap64 (by omega) (by omega)]
  omega
theorem bitI_nat {b j : Nat} (hb : b < 2 ^ 64) (hj : j ≤ 64) : bitI (b : Int) (j : Int) = ((b / 2 ^ j % 2 : Nat) : Int) := by
  unfold bitI
  rw [shr_nat (by omega) (by omega), Int.toNat_natCast, Int.toNat_natCast]
  have hx : b / 2 ^ j < 2 ^ 64 := Nat.lt_of_le_of_lt (Nat.div_le_self _ _) hb
  generalize b / 2 ^ j = x at *
  have e1 : (BitVec.ofInt 64 (x : Int)).toNat = x := by rw [BitVec.toNat_ofInt]; omega
  have e2 : (BitVec.ofInt 64 (1 : Int)).toNat = 1 := by decide
  rw [BitVec.toNat_and, e1, e2, Nat.and_one_is_mod, wrapU (by omega) (by omega), wrap64 (by omega) (by omega)]
theorem setG_get (b : Int) (n : Nat) : ∀ (m j : Nat) (l : List Int), l.length = n → j + m = n → (setG b n m j l).length = n ∧ ∀ i, i < n → (setG b n m j l)[i]? = if i < m then some (bitI b ((n - 1 - i : Nat) : Int)) else l[i]? := by
  intro m
  induction m with
  | zero => intro j l hl _; exact ⟨hl, fun i _ => by simp [setG]⟩
  | succ m ih =>
    intro j l hl hj
    obtain ⟨g1, g2⟩ := ih (j + 1) (l.set (n - 1 - j) (bitI b j)) (by simpa using hl) (by omega)
    refine ⟨g1, fun i hi => ?_⟩
    rw [setG, g2 i hi]
    have hm : n - 1 - j = m := by omega
    rw [hm]
    rcases Nat.lt_trichotomy i m with h | h | h
    · rw [if_pos h, if_pos (by omega)]
    · subst h
      rw [if_neg (by omega), if_pos (by omega), List.getElem?_set_self (by omega), show j = n - 1 - i by omega]
    · rw [if_neg (by omega), if_neg (by omega), List.getElem?_set_ne (by omega)]
theorem setG_eq {b n : Nat} (hb : b < 2 ^ 64) (hn : n ≤ 64) : setG (b : Int) n n 0 (List.replicate n 0) = (List.range n).map fun m => ((b / 2 ^ (n - 1 - m) % 2 : Nat) : Int) := by
  obtain ⟨g1, g2⟩ := setG_get (b : Int) n n 0 (List.replicate n 0) (by simp) (by omega)
  apply List.ext_getElem?
  intro i
  rcases Nat.lt_or_ge i n with hi | hi
  · rw [g2 i hi, if_pos hi, List.getElem?_map, List.getElem?_range hi]
    show some _ = some _
    rw [bitI_nat hb (by omega)]
  · rw [List.getElem?_eq_none (by omega), List.getElem?_eq_none (by simp; omega)]
theorem path_run {h a b : Int} (h1 : IntKind.u64.has a) (h2 : IntKind.u64.has b) : (bif (bif !mayN h a then true else !mayN h b) then some (rli [] 1) else bif decide (1 ≤ b) then bif !isI a b then some (rli [] 4) else bif decide (1 ≤ b) then
      bif decide (((chainN b.toNat).length : Int) = (chainN b.toNat).length) && decide (((chainN b.toNat).length : Int) ≤ 64) && decide (0 ≤ a) then some (rli (accL a (chainN b.toNat) []) 0) else none else none else none) = some (rli (pathI h a b).1 (pathI h a b).2) := by
  obtain ⟨a0, a1, a2⟩ := hasU h1
  obtain ⟨b0, b1, b2⟩ := hasU h2
  unfold pathI bothI both mayN
  rw [chk_ne a0, chk_ne b0]
  cases ho : okN h.toNat a.toNat with
  | false => rfl
  | true =>
    cases hp : okN h.toNat b.toNat with
    | false => rfl
    | true =>
      have ha := (okN_iff.1 ho).2.2.1
      have hb := (okN_iff.1 hp).2.2.1
      rw [above_nat (by omega) (by omega) b1, decide_eq_true (show 1 ≤ b by omega)]
      unfold isI
      cases hv : abv a.toNat b.toNat with
      | false => rfl
      | true =>
        have hl := chain_small b1 (by omega)
        rw [len64 hl, decide_eq_true a0]
        have e1 := accL_chain (a := a.toNat) (b := b.toNat) (by omega) (by omega) hv
        have hlog : b.toNat.log2 < 64 := (Nat.log2_lt (by omega)).2 b1
        have hle := (abv_iff.1 hv).1
        have en : (pathN a b).toNat = b.toNat.log2 - a.toNat.log2 := by unfold pathN; rw [dep_nat (by omega), dep_nat (by omega)]; omega
        have e2 := setG_eq (b := b.toNat) (n := b.toNat.log2 - a.toNat.log2) b1 (by omega)
        rw [show ((a.toNat : Nat) : Int) = a by omega] at e1
        rw [show ((b.toNat : Nat) : Int) = b by omega] at e2
        rw [en, e1, e2]; rfl
theorem g338 : GoodS Tryd.prog N338 s311 := by
  refine good (.cons g374 (.cons g337 (.cons g370 (.nil _)))) H338 rfl (by kernel_rfl) Λ338 [(0, live338)] (oneLoop (p0 := loopK F338 0) (by kernel_rfl) loop338) [.v I, .v U, .v U] (by decide) [.sl true I] _ fun x r hw e => ?_
  obtain ⟨h, a, b⟩ := x
  cases e
  exact (r338 h a b).trans (path_run hw.2.1 hw.2.2)

abbrev live314 : List (Nat × Dir) := [(0, .keep), (7, .keep), (8, .keep), (9, .keep), (10, .keep), (54, .keep), (55, .keep), (56, .keep)]
def vs314 (h : Int) (s : Subset.D) (k : Int) (sd : SV) (e : Int) (l : List Subset.D) (n i : Int) : List AV := [.one (.int .i64 h), .own [.int .u64 s.1, .int .u64 s.2], .one (.int .i64 k), .one sd, .one (.int .i64 e), .one (.sl true Subset none l), .one (.int .i64 n), .one (.int .i64 i)]
abbrev live316 : List (Nat × List (Nat × Dir)) := [(0, [(0, .keep), (1, .keep), (2, .keep), (6, .keep), (7, .keep), (24, .keep), (25, .keep), (26, .keep)]), (2, [(0, .keep), (1, .keep), (6, .keep), (7, .keep), (35, .keep), (36, .keep), (37, .keep)])]
def vs316a (h i : Int) (l : List Subset.D) (r e : Int) (n j : Int) : List AV := [.one (.int .i64 h), .one (.int .u64 i), .one (.sl false Subset none l), .one (.int .i64 r), .one (.int .i64 e), .one (.sl false Subset none l), .one (.int .i64 n), .one (.int .i64 j)]
def vs316b (h i : Int) (r e : Int) (l : List Subset.D) (n j : Int) : List AV := [.one (.int .i64 h), .one (.int .u64 i), .one (.int .i64 r), .one (.int .i64 e), .one (.sl false Subset none l), .one (.int .i64 n), .one (.int .i64 j)]
def h0B (s x : Subset.D) : Bool := bif s.2 == 0 then x.2 == 0 else false
def h1B (s x : Subset.D) : Bool := bif s.2 != 0 then x.2 != 0 else false
def hitB (s x : Subset.D) : Bool := x.1 == s.1 && bif s.2 == 0 then x.2 == 0 else bif x.2 != 0 then isI x.2 s.2 else false
def retE (h : Int) (s : Subset.D) (l : List Subset.D) (n : Int) (K : AE → List AV → Option AV) (j : Nat) : Option AV :=
  bif s.2 == 0 then K .ret (vs314 h s j .nils 0 l n j) else K .ret (vs314 h s j (.sl true I none (pathI h (sAt l j).2 s.2).1) 0 l n j)
def Λ314 : Lam AV := fun cur vs K =>
  match cur, vs with
  | 0, [.one (.int .i64 h), .own [.int .u64 a, .int .u64 b], .one (.int .i64 k), .one .nils, .one (.int .i64 e), .one (.sl true (.pair (.int .u64) (.int .u64)) none l), .one (.int .i64 n), .one (.int .i64 0)] =>
    bif decide (n = l.length) && decide (n ≤ 9223372036854775807) && decide (0 ≤ b) then allK (retE h (a, b) l n K) (K (.exit 0) (vs314 h (a, b) k .nils e l n n)) (fun j => hitB (a, b) (sAt l j)) n.toNat 0 else none
  | _, _ => none
theorem is_guard {s x : Int × Int} (h : 0 ≤ s.2) : (decide (1 ≤ s.2) || !boolBeq (h1B s x) true) = true := by
  cases e : s.2 != 0 with
  | false => unfold h1B; rw [e]; cases decide (1 ≤ s.2) <;> rfl
  | true => have : s.2 ≠ 0 := ne_of e; rw [decide_eq_true (show 1 ≤ s.2 by omega)]; rfl
def refE (h k i : Int) (s : Subset.D) : Option AV :=
  bif (bif bif (pairsL h k i).2 != 0 then true else (mayI h k s).2 != 0 then true else !(mayI h k s).1) then some (ren 0 [] 1) else bif !(hasI h s i).1 then some (ren 0 [] 4) else
    bif decide (((pairsL h k i).1.length : Int) = (pairsL h k i).1.length) && decide (((pairsL h k i).1.length : Int) ≤ 9223372036854775807) && decide (0 ≤ s.2) then
      allK (fun j => bif s.2 == 0 then some (ren j [] 0) else some (ren j (pathI h (sAt (pairsL h k i).1 j).2 s.2).1 0)) (some (ren 0 [] 4)) (fun j => hitB s (sAt (pairsL h k i).1 j)) (((pairsL h k i).1.length : Int)).toNat 0 else none
def Λ316 : Lam AV := fun cur vs K =>
  match cur, vs with
  | 0, [.one (.int .i64 h), .one (.int .u64 i), .one (.sl false (.pair (.int .u64) (.int .u64)) none l'), .one (.int .i64 r), .one (.int .i64 e), .one (.sl false (.pair (.int .u64) (.int .u64)) none l), .one (.int .i64 n), .one (.int .i64 0)] =>
    bif decide (l' = l) && decide (n = l.length) && decide (n ≤ 9223372036854775807) then allK (fun j => K .ret (vs316a h i l 0 1 n j)) (K (.exit 0) (vs316a h i l r e n n)) (fun j => badS h (sAt l j)) n.toNat 0 else none
  | 2, [.one (.int .i64 h), .one (.int .u64 i), .one (.int .i64 r), .one (.int .i64 e), .one (.sl false (.pair (.int .u64) (.int .u64)) none l), .one (.int .i64 n), .one (.int .i64 0)] =>
    bif decide (n = l.length) && decide (n ≤ 9223372036854775807) then allK (fun j => K .ret (vs316b h i j 0 l n j)) (K (.exit 2) (vs316b h i r e l n n)) (fun j => (hasI h (sAt l j) i).1) n.toNat 0 else none
  | _, _ => none
def refF (h i : Int) (l : List Subset.D) : Option AV :=
  bif (leafI h i).2 != 0 then some (ri2 0 1) else
    bif decide (l = l) && decide ((l.length : Int) = l.length) && decide ((l.length : Int) ≤ 9223372036854775807) then
      allK (fun _ => some (ri2 0 1)) (bif decide ((l.length : Int) = l.length) && decide ((l.length : Int) ≤ 9223372036854775807) then allK (fun j => some (ri2 j 0)) (some (ri2 0 4)) (fun j => (hasI h (sAt l j) i).1) (l.length : Int).toNat 0 else none) (fun j => badS h (sAt l j)) (l.length : Int).toNat 0
    else none

theorem idxP_app (p : Int × Int → Bool) : ∀ (l m : List (Int × Int)) (i : Int), 0 ≤ i → idxP p (l ++ m) i = bif decide (idxP p l i ≥ 0) then idxP p l i else idxP p m (i + l.length) := by
  intro l
  induction l with
  | nil =>
    intro m i _
    show idxP p m i = bif decide ((-1 : Int) ≥ 0) then -1 else idxP p m (i + 0)
    rw [Int.add_zero]; rfl
  | cons x l ih =>
    intro m i hi
    rcases Bool.eq_false_or_eq_true (p x) with hx | hx
    · simp only [List.cons_append, idxP, hx, cond_true]; rw [decide_eq_true (show i ≥ 0 from hi)]; rfl
    · simp only [List.cons_append, idxP, hx, cond_false]
      rw [ih m (i + 1) (by omega)]
      rw [show i + 1 + (l.length : Int) = i + ((x :: l).length : Int) by simp only [List.length_cons]; omega]
theorem idxP_spec (p : Int × Int → Bool) : ∀ (l : List (Int × Int)) (i : Int), 0 ≤ i → idxP p l i ≥ 0 → i ≤ idxP p l i ∧ idxP p l i < i + l.length ∧ p (l.getD (idxP p l i - i).toNat (0, 0)) = true ∧ ∀ j : Nat, (j : Int) < idxP p l i - i → p (l.getD j (0, 0)) = false := by
  intro l
  induction l with
  | nil => intro i _ h; exact absurd h (by show ¬ ((-1 : Int) ≥ 0); decide)
  | cons x l ih =>
    intro i hi h
    simp only [idxP] at h ⊢
    cases hx : p x with
    | true =>
      simp only [cond_true]
      refine ⟨Int.le_refl i, by simp only [List.length_cons]; omega, ?_, fun j hj => by omega⟩
      rw [show (i - i).toNat = 0 by omega]; exact hx
    | false =>
      rw [hx] at h
      simp only [cond_false] at h ⊢
      obtain ⟨h1, h2, h3, h4⟩ := ih (i + 1) (by omega) h
      refine ⟨by omega, by simp only [List.length_cons]; omega, ?_, fun j hj => ?_⟩
      · rw [show (idxP p l (i + 1) - i).toNat = (idxP p l (i + 1) - (i + 1)).toNat + 1 by omega]
        exact h3
      · cases j with
        | zero => exact hx
        | succ j => exact h4 j (by omega)
theorem idxP_none (p : Int × Int → Bool) : ∀ (l : List (Int × Int)) (i : Int), 0 ≤ i → ¬ idxP p l i ≥ 0 → ∀ x ∈ l, p x = false := by
  intro l
  induction l with
  | nil => intro i _ _ x hx; cases hx
  | cons y l ih =>
    intro i hi h x hx
    simp only [idxP] at h
    cases hy : p y with
    | true => rw [hy] at h; exact absurd hi h
    | false =>
      rw [hy] at h
      rcases List.mem_cons.1 hx with rfl | hx
      · exact hy
      · exact ih (i + 1) (by omega) h x hx
theorem first_law (h i : Int) (l more : List (Int × Int)) (hi : IntKind.u64.has i) (hl : ∀ x ∈ l, IntKind.u64.has x.1 ∧ IntKind.u64.has x.2) (hlen : l.length ≤ 60) : lawF h i l (firstI h i l) (firstI h i (l ++ more)) = oB' true := by
  obtain ⟨c0, c1, c2⟩ := hasU hi
  unfold lawF
  cases hf : (leafI h i).2 != 0 with
  | true =>
    have e1 : ∀ m, firstI h i m = (0, 1) := fun m => by unfold firstI; rw [hf]; rfl
    rw [e1, e1]; rfl
  | false =>
    have hlf : leafOk h.toNat i.toNat = true := by
      rw [← leaf_err c0 c1]
      unfold bne at hf
      simpa using hf
    have ex : ∀ m, firstI h i m = bif decide (idxP (badS h) m 0 ≥ 0) then (0, 1) else bif decide (idxP (hasS h i) m 0 < 0) then (0, 4) else (idxP (hasS h i) m 0, 0) := fun m => by unfold firstI; rw [hf]; rfl
    have ab := idxP_app (badS h) l more 0 (Int.le_refl 0)
    have ah := idxP_app (hasS h i) l more 0 (Int.le_refl 0)
    rw [Int.zero_add] at ab ah
    cases hb : decide (idxP (badS h) l 0 ≥ 0) with
    | true =>
      rw [hb] at ab
      have f1 : firstI h i l = (0, 1) := by rw [ex l, hb]; rfl
      have f2 : firstI h i (l ++ more) = (0, 1) := by
        have : idxP (badS h) (l ++ more) 0 ≥ 0 := by rw [ab]; exact of_decide_eq_true hb
        rw [ex (l ++ more), decide_eq_true this]; rfl
      rw [f1, f2]; rfl
    | false =>
      cases hm : decide (idxP (badS h) (l ++ more) 0 ≥ 0) with
      | true =>
        rw [ex (l ++ more), hm]
        have : ((firstI h i l).2 == 1) = false := by
          rw [ex l, hb]
          cases decide (idxP (hasS h i) l 0 < 0) <;> rfl
        rw [this]; rfl
      | false =>
        rw [ex l, ex (l ++ more), hb, hm]
        simp only [cond_false]
        cases hh : decide (idxP (hasS h i) l 0 < 0) with
        | true =>
          have hge : ¬ idxP (hasS h i) l 0 ≥ 0 := by have := of_decide_eq_true hh; omega
          rw [decide_eq_false hge] at ah
          simp only [cond_false] at ah
          cases hj : decide (idxP (hasS h i) (l ++ more) 0 < 0) with
          | true => rfl
          | false =>
            have hge2 := of_decide_eq_false hj
            have : idxP (hasS h i) (l ++ more) 0 ≥ (l.length : Int) := by
              rcases idxP_ge (hasS h i) more (l.length : Int) with e | e
              · rw [ah, e] at hge2; exact absurd (by decide) hge2
              · rw [ah]; exact e
            show (oB' (decide (idxP (hasS h i) (l ++ more) 0 ≥ (l.length : Int)))) = _
            rw [decide_eq_true this]
        | false =>
          have hge : idxP (hasS h i) l 0 ≥ 0 := by have := of_decide_eq_false hh; omega
          rw [decide_eq_true hge] at ah
          simp only [cond_true] at ah
          rw [ah, hh]
          obtain ⟨q1, q2, q3, q4⟩ := idxP_spec (hasS h i) l 0 (Int.le_refl 0) hge
          rw [Int.sub_zero] at q3 q4
          rw [Int.zero_add] at q2
          generalize hk : idxP (hasS h i) l 0 = k at *
          simp only [cond_false]
          show (bif (bif (k != k) then true else decide (k ≥ (l.length : Int))) then oB' false else lastF h i k l) = _
          rw [show (k != k) = false from bne_self_eq_false k, decide_eq_false (show ¬ k ≥ (l.length : Int) by omega)]
          simp only [cond_false]
          have ew : IntKind.i64.wrap (k + 1) = k + 1 := wrap64 (by omega) (by omega)
          unfold lastF
          rw [ew]
          have el : (l.take (k + 1).toNat).length = k.toNat + 1 := by rw [List.length_take]; omega
          rw [decide_eq_true (show 0 ≤ k + 1 by omega), decide_eq_true (show k + 1 ≤ (l.length : Int) by omega), lenMax (by omega)]
          simp only [Bool.and_self, cond_true]
          refine allK_ok fun j _ hj => ?_
          rw [Int.toNat_natCast, el] at hj
          have es : sAt (l.take (k + 1).toNat) (j : Int) = l.getD j (0, 0) := by
            show (l.take (k + 1).toNat).getD (j : Int).toNat (0, 0) = _
            rw [Int.toNat_natCast, List.getD_eq_getElem?_getD, List.getElem?_take_of_lt (by omega), ← List.getD_eq_getElem?_getD]
          have hmem : l.getD j (0, 0) ∈ l := by
            rw [List.getD_eq_getElem?_getD, List.getElem?_eq_getElem (show j < l.length by omega)]
            exact List.getElem_mem _
          have hbad := idxP_none (badS h) l 0 (Int.le_refl 0) (of_decide_eq_false hb) _ hmem
          obtain ⟨u1, u2⟩ := hl _ hmem
          have hok : okS h.toNat (l.getD j (0, 0)).1.toNat (l.getD j (0, 0)).2.toNat = true := by
            unfold badS at hbad
            rw [subE_ne u1 u2] at hbad
            simpa using hbad
          have hv := has_nat (h := h) u1 u2 hi
          rw [hok, hlf] at hv
          simp only [Bool.and_self, cond_true] at hv
          unfold badF
          rw [es, hv]
          show (bif ((0 : Int) != 0) then true else hasN h.toNat (l.getD j (0, 0)).1.toNat (l.getD j (0, 0)).2.toNat i.toNat != ((j : Int) == k)) = false
          have hS : hasS h i (l.getD j (0, 0)) = hasN h.toNat (l.getD j (0, 0)).1.toNat (l.getD j (0, 0)).2.toNat i.toNat := by unfold hasS; rw [hv]; rfl
          rw [← hS]
          by_cases hjk : (j : Int) = k
          · have : j = k.toNat := by omega
            rw [this, q3, show (((k.toNat : Nat) : Int) == k) = true by simp; omega]; rfl
          · rw [q4 j (by omega), show ((j : Int) == k) = false by simpa using hjk]; rfl

theorem xor_div {a b : Nat} (k : Nat) : (a ^^^ b) / 2 ^ k = (a / 2 ^ k) ^^^ (b / 2 ^ k) := by
  rw [← Nat.shiftRight_eq_div_pow, ← Nat.shiftRight_eq_div_pow, ← Nat.shiftRight_eq_div_pow, Nat.shiftRight_xor_distrib]
theorem xor_zero {a b : Nat} : a ^^^ b = 0 ↔ a = b := by
  constructor
  · intro h
    have : a ^^^ b ^^^ b = 0 ^^^ b := by rw [h]
    rwa [Nat.xor_assoc, Nat.xor_self, Nat.xor_zero, Nat.zero_xor] at this
  · rintro rfl; exact Nat.xor_self a
theorem agree_iff {a b k : Nat} : a / 2 ^ k = b / 2 ^ k ↔ a ^^^ b < 2 ^ k := by
  rw [← xor_zero, ← xor_div, Nat.div_eq_zero_iff_lt (Nat.two_pow_pos k)]
theorem xorI_nat {a b : Nat} (ha : a < 2 ^ 64) (hb : b < 2 ^ 64) : xorI a b = ((a ^^^ b : Nat) : Int) := by
  unfold xorI
  have e1 : (BitVec.ofInt 64 (a : Int)).toNat = a := by rw [BitVec.toNat_ofInt]; omega
  have e2 : (BitVec.ofInt 64 (b : Int)).toNat = b := by rw [BitVec.toNat_ofInt]; omega
  rw [BitVec.toNat_xor, e1, e2, wrapU]
  · omega
  · have := Nat.xor_lt_two_pow ha hb; omega
theorem depI_nat {n : Nat} (h : n ≠ 0) : depI (n : Int) = (n.log2 : Int) := by rw [dep_nat (by omega), Int.toNat_natCast]
theorem chk_natOk {H n : Nat} (h : okN H n = true) : (chkI (H : Int) (n : Int) != 0) = false := by rw [chk_ne (by omega), Int.toNat_natCast, Int.toNat_natCast, h]; rfl
/-- BESIDE: the last node of J's chain that is not of the leaf's. -/
theorem beside_nat {H x J : Nat} (a : LeafAt H x) (hJ : okN H J = true) (hn : abv J (leafN H x) = false) : ∃ q, 1 ≤ q ∧ q ≤ J.log2 ∧
    leafN H x / 2 ^ (H - J.log2) / 2 ^ q = J / 2 ^ q ∧ leafN H x / 2 ^ (H - J.log2) / 2 ^ (q - 1) ≠ J / 2 ^ (q - 1) ∧
    besI (H : Int) ((leafN H x : Nat) : Int) (J : Int) = (((J / 2 ^ (q - 1) : Nat) : Int), 0) := by
  obtain ⟨_, _, j1, j2⟩ := okN_iff.1 hJ
  have hj0 : J ≠ 0 := by omega
  have hD := (okN_log (h := H) hj0).1 j2
  have hl := a.log
  have hL0 := leafN_ne (h := H) (i := x)
  have hb := a.lt
  have h32 := a.h2
  have h1 := a.h1
  have hJ64 : J < 2 ^ 64 := by
    have : 2 ^ (H + 1) ≤ 2 ^ 33 := Nat.pow_le_pow_right (by decide) (by omega)
    omega
  have hLok : okN H (leafN H x) = true := okN_iff.2 ⟨a.h1, a.h2, by omega, (okN_log hL0).2 (by omega)⟩
  generalize hLe : leafN H x = L at *
  generalize hDe : J.log2 = D at *
  have hA0 : L / 2 ^ (H - D) ≠ 0 := div_pos hL0 (by omega)
  have hAl : (L / 2 ^ (H - D)).log2 = D := by rw [log2_div hL0 (by omega)]; omega
  have hA64 : L / 2 ^ (H - D) < 2 ^ 64 := Nat.lt_of_le_of_lt (Nat.div_le_self _ _) (by omega)
  have hne : L / 2 ^ (H - D) ≠ J := by
    intro e
    have : abv J L = true := abv_iff.2 ⟨by omega, by rw [hDe, hl]; exact e⟩
    rw [this] at hn; cases hn
  generalize hAe : L / 2 ^ (H - D) = A at *
  have hx0 : A ^^^ J ≠ 0 := fun e => hne (xor_zero.1 e)
  have htop : A / 2 ^ D = J / 2 ^ D := by
    have k1 := log2_le hA0
    have k2 := lt_log2 (n := A)
    have k3 := log2_le hj0
    have k4 := lt_log2 (n := J)
    rw [hAl] at k1 k2
    rw [hDe] at k3 k4
    rw [Nat.pow_succ] at k2 k4
    rw [Nat.div_eq_of_lt_le (k := 1) (by omega) (by omega), Nat.div_eq_of_lt_le (k := 1) (by omega) (by omega)]
  have hxl : (A ^^^ J).log2 < D := (Nat.log2_lt hx0).2 (agree_iff.1 htop)
  have hx64 : A ^^^ J < 2 ^ 64 := Nat.xor_lt_two_pow hA64 hJ64
  refine ⟨(A ^^^ J).log2 + 1, by omega, by omega, agree_iff.2 lt_log2, fun e => ?_, ?_⟩
  · rw [Nat.add_sub_cancel] at e
    have := agree_iff.1 e
    have := log2_le hx0
    omega
  · rw [Nat.add_sub_cancel]
    have m1 : minI (H : Int) (D : Int) = (D : Int) := by unfold minI; split <;> omega
    have e1 : meetI (H : Int) (L : Int) (J : Int) = (((A / 2 ^ ((A ^^^ J).log2 + 1) : Nat) : Int), 0) := by
      unfold meetI bothI both
      rw [chk_natOk hLok, chk_natOk hJ, depI_nat hL0, depI_nat hj0, hl, hDe, m1]
      simp only [cond_false]
      have s1 : shrI (L : Int) ((H - D : Nat) : Int) = (A : Int) := by rw [shr_nat (by omega) (by omega), Int.toNat_natCast, Int.toNat_natCast, hAe]
      have s2 : shrI (J : Int) ((0 : Nat) : Int) = (J : Int) := by rw [shr_nat (by omega) (by omega), Int.toNat_natCast, Int.toNat_natCast, Nat.pow_zero, Nat.div_one]
      rw [show (H : Int) - (D : Int) = ((H - D : Nat) : Int) by omega, show (D : Int) - (D : Int) = ((0 : Nat) : Int) by omega, s1, s2]
      rw [xorI_nat hA64 hJ64, lenI_nat hx0, show ((A ^^^ J).log2 : Int) + 1 = (((A ^^^ J).log2 + 1 : Nat) : Int) by omega, shr_nat (by omega) (by omega), Int.toNat_natCast, Int.toNat_natCast]
      rfl
    have hm0 : A / 2 ^ ((A ^^^ J).log2 + 1) ≠ 0 := div_pos hA0 (by omega)
    have hml : (A / 2 ^ ((A ^^^ J).log2 + 1)).log2 = D - ((A ^^^ J).log2 + 1) := by rw [log2_div hA0 (by omega), hAl]
    have e2 : depthI (H : Int) (((A / 2 ^ ((A ^^^ J).log2 + 1) : Nat) : Int)) = (((D - ((A ^^^ J).log2 + 1) : Nat) : Int), 0) := by
      unfold depthI
      rw [chk_natOk (okN_iff.2 ⟨a.h1, a.h2, Nat.pos_of_ne_zero hm0, (okN_log hm0).2 (by omega)⟩), depI_nat hm0, hml]; rfl
    unfold besI
    rw [e1, e2]
    show upI (H : Int) (J : Int) (IntKind.i64.wrap (((D - ((A ^^^ J).log2 + 1) : Nat) : Int) + 1)) = _
    rw [wrap64 (by omega) (by omega)]
    unfold upI outUp
    rw [chk_natOk hJ, depI_nat hj0, hDe, decide_eq_false (show ¬ ((D - ((A ^^^ J).log2 + 1) : Nat) : Int) + 1 < 0 by omega), decide_eq_false (show ¬ ((D - ((A ^^^ J).log2 + 1) : Nat) : Int) + 1 > (D : Int) by omega)]
    show (shrI (J : Int) ((D : Int) - (((D - ((A ^^^ J).log2 + 1) : Nat) : Int) + 1)), (0 : Int)) = _
    rw [show (D : Int) - (((D - ((A ^^^ J).log2 + 1) : Nat) : Int) + 1) = (((A ^^^ J).log2 : Nat) : Int) by omega, shr_nat (by omega) (by omega), Int.toNat_natCast, Int.toNat_natCast]
theorem allK_congr {R : Nat → Option AV} {E : Option AV} {b b' : Nat → Bool} : ∀ {m j : Nat}, (∀ i, j ≤ i → i < j + m → b i = b' i) → allK R E b m j = allK R E b' m j := by
  intro m
  induction m with
  | zero => intro j _; rfl
  | succ m ih =>
    intro j h
    rw [allK, allK, h j (Nat.le_refl j) (by omega), ih fun i h1 h2 => h i (by omega) (by omega)]
theorem allK_idxP {R : Nat → Option AV} {E : Option AV} {p : Int × Int → Bool} (l : List (Int × Int)) : ∀ (m j : Nat), j + m = l.length →
    allK R E (fun j => p (sAt l j)) m j = bif decide (idxP p (l.drop j) j < 0) then E else R (idxP p (l.drop j) j).toNat := by
  intro m
  induction m with
  | zero =>
    intro j hj
    rw [List.drop_of_length_le (by omega)]; rfl
  | succ m ih =>
    intro j hj
    have h1 : j < l.length := by omega
    rw [allK, ih (j + 1) (by omega), sAt_drop h1]
    rcases Bool.eq_false_or_eq_true (p (sAt l j)) with hx | hx
    · simp only [idxP, hx, cond_true]
      rw [decide_eq_false (show ¬ (j : Int) < 0 by omega), Int.toNat_natCast]; rfl
    · simp only [idxP, hx, cond_false]; rfl
theorem allK_all {R : Nat → Option AV} {E : Option AV} {p : Int × Int → Bool} (l : List (Int × Int)) : allK R E (fun j => p (sAt l j)) (l.length : Int).toNat 0 = bif decide (idxP p l 0 < 0) then E else R (idxP p l 0).toNat := by
  rw [Int.toNat_natCast, allK_idxP l l.length 0 (by omega), List.drop_zero]; rfl
theorem idxS_P (s : Int × Int) : ∀ (l : List (Int × Int)) (i : Int), idxS s l i = idxP (fun x => s.1 == x.1 && s.2 == x.2) l i := by
  intro l
  induction l with
  | nil => intro i; rfl
  | cons x l ih => intro i; simp only [idxS, idxP, ih]
theorem idxP_congr {p q : Int × Int → Bool} : ∀ {l : List (Int × Int)} (i : Int), (∀ x ∈ l, p x = q x) → idxP p l i = idxP q l i := by
  intro l
  induction l with
  | nil => intro i _; rfl
  | cons x l ih =>
    intro i h
    simp only [idxP]
    rw [h x (by simp), ih (i + 1) fun y hy => h y (by simp [hy])]
/-- Which pair of a leaf's is hit: just the one beside. -/
theorem hit_beside {H x J t d : Nat} (a : LeafAt H x) (hJ : okN H J = true) (hn : abv J (leafN H x) = false) (ht : t < d) (hd : d ≤ H) {q : Nat} (q1 : 1 ≤ q) (q2 : q ≤ J.log2)
    (q3 : leafN H x / 2 ^ (H - J.log2) / 2 ^ q = J / 2 ^ q) (q4 : leafN H x / 2 ^ (H - J.log2) / 2 ^ (q - 1) ≠ J / 2 ^ (q - 1)) :
    abv ((leafN H x / 2 ^ (H - d)) ^^^ 1) J = (J / 2 ^ (q - 1) == (leafN H x / 2 ^ (H - d)) ^^^ 1) := by
  obtain ⟨_, _, j1, j2⟩ := okN_iff.1 hJ
  have hj0 : J ≠ 0 := by omega
  have hD := (okN_log (h := H) hj0).1 j2
  have hl := a.log
  have hL0 := leafN_ne (h := H) (i := x)
  generalize leafN H x = L at *
  have ld : (L / 2 ^ (H - d)).log2 = d := by rw [log2_div hL0 (by omega)]; omega
  have nd : L / 2 ^ (H - d) ≠ 0 := div_pos hL0 (by omega)
  have nd2 : 2 ≤ L / 2 ^ (H - d) := by
    have := log2_le nd
    rw [ld] at this
    have : 2 ^ 1 ≤ 2 ^ d := Nat.pow_le_pow_right (by decide) (by omega)
    omega
  have lx : ((L / 2 ^ (H - d)) ^^^ 1).log2 = d := by rw [xor_one_log2 nd2, ld]
  apply Bool.eq_iff_iff.2
  rw [abv_iff, beq_iff_eq, lx]
  constructor
  · rintro ⟨h1, h2⟩
    -- the depth is the one beside
    have ek : L / 2 ^ (H - J.log2) / 2 ^ (J.log2 - d) = L / 2 ^ (H - d) := by rw [div_div_pow]; congr 2; omega
    have n1 : L / 2 ^ (H - J.log2) / 2 ^ (J.log2 - d) ≠ J / 2 ^ (J.log2 - d) := by rw [ek, h2]; exact (xor_one _).2.symm
    have n2 : L / 2 ^ (H - J.log2) / 2 ^ (J.log2 - d + 1) = J / 2 ^ (J.log2 - d + 1) := by
      rw [← div_div_pow, ek, ← div_div_pow J, h2, Nat.pow_one, (xor_one _).1]
    have m1 := agree_iff.1 q3
    have m2 : ¬ _ := fun h => q4 (agree_iff.2 h)
    have m3 := agree_iff.1 n2
    have m4 : ¬ _ := fun h => n1 (agree_iff.2 h)
    have : J.log2 - d = q - 1 := by
      rcases Nat.lt_trichotomy (J.log2 - d) (q - 1) with h | h | h
      · exact absurd (Nat.lt_of_lt_of_le m3 (Nat.pow_le_pow_right (by decide) (by omega))) m2
      · exact h
      · exact absurd (Nat.lt_of_lt_of_le m1 (Nat.pow_le_pow_right (by decide) (by omega))) m4
    rw [← this]; exact h2
  · intro h
    have hlog : (J / 2 ^ (q - 1)).log2 = J.log2 - (q - 1) := log2_div hj0 (by omega)
    rw [h, lx] at hlog
    refine ⟨by omega, ?_⟩
    rw [show J.log2 - d = q - 1 by omega]; exact h
theorem ent_J {h k i : Int} {s : Int × Int} (h1 : IntKind.u64.has s.1) (h2 : IntKind.u64.has s.2) (hi : IntKind.u64.has i) (hn : noPr h k i = false) (hk : k ≠ 1) (hs : s.2 ≠ 0)
    (hok : okS h.toNat s.1.toNat s.2.toNat = true) (hh : hasN h.toNat s.1.toNat s.2.toNat i.toNat = true) :
    (besI h (leafI h i).1 s.2).2 = 0 ∧ (pathI h (fromJ h i s) s.2).2 = 0 ∧ ∀ y ∈ (pairsL h k i).1, hitB s y = (s.1 == y.1 && fromJ h i s == y.2) := by
  obtain ⟨n1, n2⟩ := noPr_ok hn
  obtain ⟨m1, m2, m3, _, _⟩ := many_ok n1
  obtain ⟨c0, c1, c2⟩ := hasU hi
  obtain ⟨b0, b1, b2⟩ := hasU h2
  have hlo : leafOk h.toNat i.toNat = true := by rw [leaf_ne c0 c1] at n2; simpa using n2
  obtain ⟨l1, l2, l3⟩ := leafOk_iff.1 hlo
  have el := leaf_val c0 c1 hlo
  obtain ⟨I, J⟩ := s
  simp only at h1 h2 hs hok hh b0 b1 b2 ⊢
  have hJ0 : J.toNat ≠ 0 := fun e => hs (by rw [b2, e]; rfl)
  obtain ⟨k1, k2⟩ := okS_iff.1 hok
  obtain ⟨j1, j2, j3⟩ := k2.resolve_left hJ0
  unfold hasN at hh
  simp only [Bool.and_eq_true, Bool.or_eq_true, Bool.not_eq_true', beq_iff_eq] at hh
  have hna := hh.2.resolve_left hJ0
  have hia := hh.1
  obtain ⟨H, rfl⟩ := Int.eq_ofNat_of_zero_le (show 0 ≤ h by omega)
  obtain ⟨Jn, rfl⟩ := Int.eq_ofNat_of_zero_le b0
  simp only [Int.toNat_natCast] at *
  have a : LeafAt H i.toNat := ⟨l1, l2, l3⟩
  obtain ⟨q, q1, q2, q3, q4, q5⟩ := beside_nat a j1 hna
  have ef : fromJ (H : Int) i (I, (Jn : Int)) = ((Jn / 2 ^ (q - 1) : Nat) : Int) := by
    unfold fromJ
    show (besI (H : Int) (leafI (H : Int) i).1 (Jn : Int)).1 = _
    rw [el, q5]
  have hf0 : Jn / 2 ^ (q - 1) ≠ 0 := div_pos hJ0 (by omega)
  have hfl : (Jn / 2 ^ (q - 1)).log2 = Jn.log2 - (q - 1) := log2_div hJ0 (by omega)
  obtain ⟨_, _, _, jlt⟩ := okN_iff.1 j1
  have hDl := (okN_log (h := H) hJ0).1 jlt
  refine ⟨by rw [el, q5], ?_, fun y hy => ?_⟩
  · rw [ef]
    have f1 : okN H (Jn / 2 ^ (q - 1)) = true := okN_iff.2 ⟨l1, l2, Nat.pos_of_ne_zero hf0, (okN_log hf0).2 (by omega)⟩
    have f2 : abv (Jn / 2 ^ (q - 1)) Jn = true := abv_iff.2 ⟨by omega, by rw [hfl, show Jn.log2 - (Jn.log2 - (q - 1)) = q - 1 by omega]⟩
    unfold pathI bothI both
    have hf1 : (1 : Int) ≤ ((Jn / 2 ^ (q - 1) : Nat) : Int) := by exact_mod_cast Nat.pos_of_ne_zero hf0
    rw [chk_natOk f1, chk_natOk j1, above_nat hf1 (by omega) (by rw [Int.toNat_natCast]; exact b1), Int.toNat_natCast, Int.toNat_natCast, f2]
    rfl
  · rw [ef]
    unfold pairsL at hy
    rw [hn, show (k == 1) = false by simpa using hk, el] at hy
    simp only [cond_false, Int.toNat_natCast] at hy
    have hsz : ((Jn : Int) == 0) = false := beq_eq_false_iff_ne.2 (by omega)
    unfold hitB
    simp only [hsz, cond_false]
    rcases outG_mem (by rw [Int.toNat_natCast]; omega) hy with hy | ⟨t, d, ht, hd, rfl⟩
    · rw [List.mem_singleton] at hy
      subst hy
      have e0 : (((Jn / 2 ^ (q - 1) : Nat) : Int) == 0) = false := beq_eq_false_iff_ne.2 (by intro e; exact hf0 (by exact_mod_cast e))
      show ((1 : Int) == I && (bif (0 : Int) != 0 then _ else false)) = (I == (1 : Int) && (((Jn / 2 ^ (q - 1) : Nat) : Int) == 0))
      rw [e0, Bool.and_false]
      show ((1 : Int) == I && false) = false
      rw [Bool.and_false]
    · rw [Int.toNat_natCast] at hd
      rw [prP_nat l2 l3 ht hd]
      have hx0 : (leafN H i.toNat / 2 ^ (H - d)) ^^^ 1 ≠ 0 := by
        intro h0
        have hl := a.log
        have ld : (leafN H i.toNat / 2 ^ (H - d)).log2 = d := by rw [log2_div leafN_ne (by rw [hl]; omega), hl]; omega
        have nd : leafN H i.toNat / 2 ^ (H - d) ≠ 0 := div_pos leafN_ne (by rw [hl]; omega)
        have nd2 : 2 ≤ leafN H i.toNat / 2 ^ (H - d) := by
          have := log2_le nd
          rw [ld] at this
          have : 2 ^ 1 ≤ 2 ^ d := Nat.pow_le_pow_right (by decide) (by omega)
          omega
        have := xor_one_log2 nd2
        rw [h0, Nat.log2_zero, ld] at this
        omega
      have e1 : ((((leafN H i.toNat / 2 ^ (H - d)) ^^^ 1 : Nat) : Int) != 0) = true := by unfold bne; rw [beq_eq_false_iff_ne.2 (fun e => hx0 (by exact_mod_cast e))]; rfl
      simp only [e1, cond_true]
      unfold isI
      rw [Int.toNat_natCast, Int.toNat_natCast, hit_beside a j1 hna ht hd q1 q2 q3 q4]
      have e2 : ∀ m n : Nat, ((m : Int) == (n : Int)) = (m == n) := fun m n => by apply Bool.eq_iff_iff.2; rw [beq_iff_eq, beq_iff_eq]; omega
      rw [e2, BEq.comm (a := ((leafN H i.toNat / 2 ^ (H - t) : Nat) : Int))]
theorem entry_ref {h k i : Int} {s : Int × Int} (h1 : IntKind.u64.has s.1) (h2 : IntKind.u64.has s.2) (hi : IntKind.u64.has i) (hlen : (pairsL h k i).1.length ≤ 9223372036854775807) : refE h k i s = some (reE (entryI h k i s)) := by
  obtain ⟨c0, c1, c2⟩ := hasU hi
  obtain ⟨b0, b1, b2⟩ := hasU h2
  unfold refE entryI noEn
  cases hp : (pairsL h k i).2 != 0 with
  | true => rfl
  | false =>
    have hn : noPr h k i = false := by
      cases hn : noPr h k i with
      | false => rfl
      | true => unfold pairsL at hp; rw [hn] at hp; cases hp
    have hl := (noPr_ok hn).2
    have hlo : leafOk h.toNat i.toNat = true := by rw [leaf_ne c0 c1] at hl; simpa using hl
    rw [hl]
    cases hm : (mayI h k s).2 != 0 with
    | true => rfl
    | false =>
      cases hm1 : (mayI h k s).1 with
      | false => rfl
      | true =>
        have hmay : mayI h k s = (true, 0) := Prod.ext hm1 (by simpa using hm)
        have hok : okS h.toNat s.1.toNat s.2.toNat = true := by
          unfold mayI at hmay
          cases h3 : mayB3 h k s with
          | true => rw [h3] at hmay; cases hmay
          | false =>
            unfold mayB3 at h3
            cases h4 : schE h k != 0 with
            | true => rw [h4] at h3; cases h3
            | false =>
              rw [h4] at h3
              simp only [cond_false] at h3
              rw [subE_ne h1 h2] at h3
              simpa using h3
        have hv := has_nat (h := h) h1 h2 hi
        rw [hok, hlo] at hv
        simp only [Bool.and_self, cond_true] at hv
        rw [hv]
        cases hh : hasN h.toNat s.1.toNat s.2.toNat i.toNat with
        | false => rfl
        | true =>
          rw [lenMax hlen, decide_eq_true b0]
          simp only [Bool.not_true, cond_false, Bool.and_self, cond_true]
          show allK _ _ _ _ _ = some (reE (bif s.2 != 0 then _ else _))
          cases hz : s.2 == 0 with
          | true =>
            have hz' : (s.2 != 0) = false := by unfold bne; rw [hz]; rfl
            have hs0 : s.2 = 0 := by simpa using hz
            rw [hz']
            simp only [cond_false, cond_true]
            rw [allK_all (p := hitB s) (pairsL h k i).1]
            have e : idxP (hitB s) (pairsL h k i).1 0 = idxS s (pairsL h k i).1 0 := by
              rw [idxS_P]
              apply idxP_congr
              intro y _
              unfold hitB
              rw [hz, hs0, BEq.comm (a := y.1), BEq.comm (a := y.2)]; rfl
            rw [e]
            unfold atI
            cases hd : decide (idxS s (pairsL h k i).1 0 < 0) with
            | true => rfl
            | false =>
              have := of_decide_eq_false hd
              show some (ren (((idxS s (pairsL h k i).1 0).toNat : Nat) : Int) [] 0) = some (ren (idxS s (pairsL h k i).1 0) [] 0)
              rw [show (((idxS s (pairsL h k i).1 0).toNat : Nat) : Int) = idxS s (pairsL h k i).1 0 by omega]
          | false =>
            have hz' : (s.2 != 0) = true := by unfold bne; rw [hz]; rfl
            have hs0 : s.2 ≠ 0 := by simpa using hz
            have hk : k ≠ 1 := by
              rintro rfl
              exact hs0 (may_whole hmay)
            obtain ⟨e1, e2, e3⟩ := ent_J h1 h2 hi hn hk hs0 hok hh
            rw [hz', e1, e2]
            simp only [cond_false, cond_true]
            rw [allK_all (p := hitB s) (pairsL h k i).1]
            have e : idxP (hitB s) (pairsL h k i).1 0 = idxS (s.1, fromJ h i s) (pairsL h k i).1 0 := by
              rw [idxS_P]
              exact idxP_congr 0 e3
            rw [e]
            show _ = some (reE (atI _ _ _))
            unfold atI
            cases hd : decide (idxS (s.1, fromJ h i s) (pairsL h k i).1 0 < 0) with
            | true => rfl
            | false =>
              have hd := of_decide_eq_false hd
              obtain ⟨g1, g2, g3, _⟩ := idxS_ok hd
              show some (ren _ _ 0) = some (ren _ _ 0)
              rw [show (((idxS (s.1, fromJ h i s) (pairsL h k i).1 0).toNat : Nat) : Int) = idxS (s.1, fromJ h i s) (pairsL h k i).1 0 by omega, g3]
              rfl
theorem first_ref {h i : Int} {l : List (Int × Int)} (hlen : l.length ≤ 9223372036854775807) : refF h i l = some (ri2 (firstI h i l).1 (firstI h i l).2) := by
  unfold refF firstI
  have e1 := lenMax hlen
  have e2 : (decide (l = l) && decide ((l.length : Int) = l.length) && decide ((l.length : Int) ≤ 9223372036854775807)) = true := by rw [decide_eq_true (show l = l from rfl), Bool.true_and]; exact e1
  rw [e2, e1]
  cases (leafI h i).2 != 0 with
  | true => rfl
  | false =>
    simp only [cond_false, cond_true]
    rw [allK_all (p := badS h) l, allK_all (p := fun x => (hasI h x i).1) l]
    have e3 : idxP (fun x => (hasI h x i).1) l 0 = idxP (hasS h i) l 0 := by
      apply idxP_congr
      intro y _
      unfold hasS hasI
      cases badH h y i <;> rfl
    rw [e3]
    cases hb : decide (idxP (badS h) l 0 < 0) with
    | false =>
      rw [decide_eq_true (show idxP (badS h) l 0 ≥ 0 by have := of_decide_eq_false hb; omega)]; rfl
    | true =>
      rw [decide_eq_false (show ¬ idxP (badS h) l 0 ≥ 0 by have := of_decide_eq_true hb; omega)]
      simp only [cond_true, cond_false]
      cases hd : decide (idxP (hasS h i) l 0 < 0) with
      | true => rfl
      | false =>
        have hd := of_decide_eq_false hd
        simp only [cond_false]
        rw [show (((idxP (hasS h i) l 0).toNat : Nat) : Int) = idxP (hasS h i) l 0 by omega]
theorem inG_sub {h k leaf : Int} {t : Nat} {x : Subset.D} : ∀ {m d : Nat} {out : List Subset.D}, x ∈ out → x ∈ inG h k leaf t m d out := by
  intro m
  induction m with
  | zero => intro d out hx; exact hx
  | succ m ih =>
    intro d out hx
    rw [inG]
    apply ih
    cases keepB h k (prP h leaf t d) with
    | true => exact List.mem_append_left _ hx
    | false => exact hx
theorem inG_at {h k leaf : Int} {t d' : Nat} (hk : keepB h k (prP h leaf t d') = true) : ∀ {m d : Nat} {out : List Subset.D}, d ≤ d' → d' < d + m → prP h leaf t d' ∈ inG h k leaf t m d out := by
  intro m
  induction m with
  | zero => intro d out h1 h2; omega
  | succ m ih =>
    intro d out h1 h2
    rw [inG]
    rcases Nat.lt_or_eq_of_le h1 with h | rfl
    · exact ih (by omega) (by omega)
    · apply inG_sub
      rw [hk]
      exact List.mem_append_right _ (List.mem_singleton.2 rfl)
theorem outG_sub {h k leaf : Int} {x : Subset.D} : ∀ {m t : Nat} {out : List Subset.D}, x ∈ out → x ∈ outG h k leaf m t out := by
  intro m
  induction m with
  | zero => intro t out hx; exact hx
  | succ m ih => intro t out hx; rw [outG]; exact ih (inG_sub hx)
theorem outG_at {h k leaf : Int} {t d : Nat} (htd : t < d) (hd : d ≤ h.toNat) (hk : keepB h k (prP h leaf t d) = true) : ∀ {m t0 : Nat} {out : List Subset.D}, t0 ≤ t → t < t0 + m → prP h leaf t d ∈ outG h k leaf m t0 out := by
  intro m
  induction m with
  | zero => intro t0 out h1 h2; omega
  | succ m ih =>
    intro t0 out h1 h2
    rw [outG]
    rcases Nat.lt_or_eq_of_le h1 with h | rfl
    · exact ih (by omega) (by omega)
    · exact outG_sub (inG_at hk (by omega) (by omega))
theorem idxS_mem {s : Subset.D} : ∀ {l : List Subset.D} {i : Int}, 0 ≤ i → s ∈ l → ¬ idxS s l i < 0 := by
  intro l
  induction l with
  | nil => intro i _ h; cases h
  | cons x l ih =>
    intro i hi h
    simp only [idxS]
    cases hx : s.1 == x.1 && s.2 == x.2 with
    | true => simp only [cond_true]; omega
    | false =>
      simp only [cond_false]
      rcases List.mem_cons.1 h with rfl | h
      · simp at hx
      · exact ih (by omega) h
theorem sib {x y : Nat} (h1 : x / 2 = y / 2) (h2 : x ≠ y) : y = x ^^^ 1 := by
  have h3 : x ^^^ y < 2 ^ 1 := agree_iff.1 (by simpa using h1)
  have h4 : x ^^^ y ≠ 0 := fun e => h2 (xor_zero.1 e)
  have h5 : x ^^^ y = 1 := by omega
  rw [← h5, ← Nat.xor_assoc, Nat.xor_self, Nat.zero_xor]
/-- A way, in bits. -/
theorem path_nat {H a b : Nat} (ha : okN H a = true) (hb : okN H b = true) (h : abv a b = true) : pathI (H : Int) (a : Int) (b : Int) = ((List.range (b.log2 - a.log2)).map fun m => ((b / 2 ^ (b.log2 - a.log2 - 1 - m) % 2 : Nat) : Int), 0) := by
  obtain ⟨h1, h2, a1, a2⟩ := okN_iff.1 ha
  obtain ⟨_, _, b1, b2⟩ := okN_iff.1 hb
  have : 2 ^ (H + 1) ≤ 2 ^ 33 := Nat.pow_le_pow_right (by decide) (by omega)
  have hbl := (okN_log (h := H) (show b ≠ 0 by omega)).1 b2
  unfold pathI bothI both
  rw [chk_natOk ha, chk_natOk hb, above_nat (by omega) (by omega) (by rw [Int.toNat_natCast]; omega), Int.toNat_natCast, Int.toNat_natCast, h]
  have hn : pathN (a : Int) (b : Int) = ((b.log2 - a.log2 : Nat) : Int) := by
    unfold pathN
    rw [depI_nat (show a ≠ 0 by omega), depI_nat (show b ≠ 0 by omega)]
    have := (abv_iff.1 h).1
    omega
  show (setG (b : Int) (pathN (a : Int) (b : Int)).toNat (pathN (a : Int) (b : Int)).toNat 0 (List.replicate (pathN (a : Int) (b : Int)).toNat 0), (0 : Int)) = _
  rw [hn, Int.toNat_natCast, setG_eq (by omega) (by omega)]
theorem path_join {H a f b : Nat} (ha : okN H a = true) (hf : okN H f = true) (hb : okN H b = true) (h1 : abv a f = true) (h2 : abv f b = true) :
    abv a b = true ∧ (pathI (H : Int) (a : Int) (f : Int)).1 ++ (pathI (H : Int) (f : Int) (b : Int)).1 = (pathI (H : Int) (a : Int) (b : Int)).1 := by
  obtain ⟨c1, c2⟩ := abv_iff.1 h1
  obtain ⟨d1, d2⟩ := abv_iff.1 h2
  have h3 : abv a b = true := abv_iff.2 ⟨by omega, by
    have e : b.log2 - a.log2 = (b.log2 - f.log2) + (f.log2 - a.log2) := by omega
    rw [e, ← div_div_pow, d2, c2]⟩
  refine ⟨h3, ?_⟩
  rw [path_nat ha hf h1, path_nat hf hb h2, path_nat ha hb h3]
  simp only
  apply List.ext_getElem?
  intro i
  rcases Nat.lt_or_ge i (f.log2 - a.log2) with hi | hi
  · rw [List.getElem?_append_left (by simp; omega), List.getElem?_map, List.getElem?_map, List.getElem?_range hi, List.getElem?_range (by omega)]
    simp only [Option.map_some]
    have e : b.log2 - a.log2 - 1 - i = (b.log2 - f.log2) + (f.log2 - a.log2 - 1 - i) := by omega
    rw [e, ← div_div_pow, d2]
  · rw [List.getElem?_append_right (by simp; omega), List.length_map, List.length_range]
    rcases Nat.lt_or_ge i (b.log2 - a.log2) with hj | hj
    · rw [List.getElem?_map, List.getElem?_map, List.getElem?_range (by omega), List.getElem?_range hj]
      simp only [Option.map_some]
      congr 5
      omega
    · rw [List.getElem?_eq_none (by simp; omega), List.getElem?_eq_none (by simp; omega)]
theorem may_sub {h k : Int} {s : Subset.D} (e : mayI h k s = (true, 0)) : subE h s = 0 ∧ (schE h k != 0) = false := by
  unfold mayI at e
  cases h3 : mayB3 h k s with
  | true => rw [h3] at e; cases e
  | false =>
    unfold mayB3 at h3
    cases h4 : schE h k != 0 with
    | true => rw [h4] at h3; cases h3
    | false => rw [h4] at h3; exact ⟨by simpa using h3, rfl⟩
/-- What is useful stays so nearer. -/
theorem use_near {h : Int} {I J f : Int} (hs : useI h (I, J) = (true, 0)) (hJ : J ≠ 0) (hf : f ≠ 0) (h1 : subE h (I, f) = 0) (h2 : (depthI h f).2 = 0) (h3 : (depthI h f).1 ≤ (depthI h J).1) : useI h (I, f) = (true, 0) := by
  unfold useI at hs ⊢
  rw [h1]
  cases hz : subE h (I, J) != 0 with
  | true => rw [hz] at hs; cases hs
  | false =>
    rw [hz] at hs
    have e1 : ((I, J).2 == 0) = false := by simpa using hJ
    have e2 : ((I, f).2 == 0) = false := by simpa using hf
    rw [e1] at hs
    rw [e2]
    simp only [cond_false, Prod.mk.injEq] at hs
    obtain ⟨a1, a2⟩ := hs
    cases hst : (stepI h).2 != 0 with
    | true => rw [hst] at a2; exact absurd a2 (by simpa using hst)
    | false =>
      rw [hst] at a2
      simp only [cond_false] at a2
      have hb : depB h (I, J) = true ∧ (depthI h I).2 = 0 := by
        unfold depE depB at a2
        unfold depB
        have e3 : ((I, J).2 != 0) = true := by simpa using hJ
        rw [e3] at a2 ⊢
        cases hq : (depthI h I).2 == 0 with
        | true => exact ⟨by simp only [cond_true], eq_of_beq hq⟩
        | false => simp only [hq, cond_false] at a2; rw [a2] at hq; exact absurd hq (by decide)
      have hb2 : depB h (I, f) = true := by
        unfold depB
        have e3 : ((I, f).2 != 0) = true := by simpa using hf
        rw [e3]; simp only; rw [hb.2]; rfl
      have e4 : depE h (I, f) = 0 := by unfold depE; rw [hb2]; exact h2
      have e5 : depE h (I, J) = 0 := a2
      have e6 : depJ h (I, f) = (depthI h f).1 := by unfold depJ; rw [hb2]; rfl
      have e7 : depJ h (I, J) = (depthI h J).1 := by unfold depJ; rw [hb.1]; rfl
      unfold useB at a1 ⊢
      rw [hst] at a1 ⊢
      simp only [cond_false] at a1 ⊢
      rw [e4, e6]
      rw [e5, e7] at a1
      simp only [beq_self_eq_true, cond_true] at a1 ⊢
      have : (bif spB (depthI h I).1 (stepI h).1 h then true else decide ((depthI h f).1 ≤ nxI (depthI h I).1 (stepI h).1 h)) = true := by
        cases hsp : spB (depthI h I).1 (stepI h).1 h with
        | true => rfl
        | false =>
          rw [hsp] at a1
          simp only [cond_false, decide_eq_true_eq] at a1
          exact decide_eq_true (by omega)
      rw [this]
      rfl
theorem from_ok {h k i : Int} {s : Subset.D} (h1 : IntKind.u64.has s.1) (h2 : IntKind.u64.has s.2) (hi : IntKind.u64.has i) (hn : noPr h k i = false) (hm : mayI h k s = (true, 0)) (hh : hasI h s i = (true, 0)) (hs : s.2 ≠ 0) :
    k ≠ 1 ∧ (besI h (leafI h i).1 s.2).2 = 0 ∧ (pathI h (fromJ h i s) s.2).2 = 0 ∧ (s.1, fromJ h i s) ∈ (pairsL h k i).1 ∧ fromJ h i s ≠ 0 ∧ (pathI h s.1 (fromJ h i s)).1 ++ (pathI h (fromJ h i s) s.2).1 = (pathI h s.1 s.2).1 := by
  have hk : k ≠ 1 := by rintro rfl; exact hs (may_whole hm)
  obtain ⟨n1, n2⟩ := noPr_ok hn
  obtain ⟨m1, m2, m3, _, _⟩ := many_ok n1
  obtain ⟨c0, c1, c2⟩ := hasU hi
  have hok : okS h.toNat s.1.toNat s.2.toNat = true := by
    have := (may_sub hm).1
    rw [subE_nat h1 h2] at this
    cases ho : okS h.toNat s.1.toNat s.2.toNat with
    | true => rfl
    | false => rw [ho] at this; cases this
  have hlo : leafOk h.toNat i.toNat = true := by rw [leaf_ne c0 c1] at n2; simpa using n2
  have hN : hasN h.toNat s.1.toNat s.2.toNat i.toNat = true := by
    rw [has_nat h1 h2 hi, hok, hlo] at hh
    exact congrArg Prod.fst hh
  obtain ⟨j1', j2', _⟩ := ent_J h1 h2 hi hn hk hs hok hN
  refine ⟨hk, j1', j2', ?_⟩
  obtain ⟨a0, a1, a2⟩ := hasU h1
  obtain ⟨b0, b1, b2⟩ := hasU h2
  obtain ⟨l1, l2, l3⟩ := leafOk_iff.1 hlo
  have el := leaf_val c0 c1 hlo
  obtain ⟨I, J⟩ := s
  simp only at h1 h2 hs hok hN b0 b1 b2 a0 a1 a2 hm j1' j2' ⊢
  have hJ0 : J.toNat ≠ 0 := fun e => hs (by rw [b2, e]; rfl)
  obtain ⟨k1, k2⟩ := okS_iff.1 hok
  obtain ⟨j1, j2, j3⟩ := k2.resolve_left hJ0
  unfold hasN at hN
  simp only [Bool.and_eq_true, Bool.or_eq_true, Bool.not_eq_true', beq_iff_eq] at hN
  have hna := hN.2.resolve_left hJ0
  have hia := hN.1
  obtain ⟨H, rfl⟩ := Int.eq_ofNat_of_zero_le (show 0 ≤ h by omega)
  obtain ⟨Jn, rfl⟩ := Int.eq_ofNat_of_zero_le b0
  obtain ⟨In, rfl⟩ := Int.eq_ofNat_of_zero_le a0
  simp only [Int.toNat_natCast] at *
  have a : LeafAt H i.toNat := ⟨l1, l2, l3⟩
  obtain ⟨q, q1, q2, q3, q4, q5⟩ := beside_nat a j1 hna
  have ef : fromJ (H : Int) i ((In : Int), (Jn : Int)) = ((Jn / 2 ^ (q - 1) : Nat) : Int) := by
    unfold fromJ
    show (besI (H : Int) (leafI (H : Int) i).1 (Jn : Int)).1 = _
    rw [el, q5]
  have hf0 : Jn / 2 ^ (q - 1) ≠ 0 := div_pos hJ0 (by omega)
  have hfl : (Jn / 2 ^ (q - 1)).log2 = Jn.log2 - (q - 1) := log2_div hJ0 (by omega)
  obtain ⟨_, _, _, jlt⟩ := okN_iff.1 j1
  have hDl := (okN_log (h := H) hJ0).1 jlt
  have hl := a.log
  have hL0 := leafN_ne (h := H) (i := i.toNat)
  obtain ⟨i1, i2⟩ := abv_iff.1 hia
  obtain ⟨x1, x2⟩ := abv_iff.1 j2
  rw [hl] at i1 i2
  obtain ⟨_, _, iI, _⟩ := okN_iff.1 k1
  have f1 : okN H (Jn / 2 ^ (q - 1)) = true := okN_iff.2 ⟨l1, l2, Nat.pos_of_ne_zero hf0, (okN_log hf0).2 (by omega)⟩
  have f2 : abv (Jn / 2 ^ (q - 1)) Jn = true := abv_iff.2 ⟨by omega, by rw [hfl, show Jn.log2 - (Jn.log2 - (q - 1)) = q - 1 by omega]⟩
  rw [ef] at j2' ⊢
  generalize hfe : Jn / 2 ^ (q - 1) = f at *
  generalize hLe : leafN H i.toNat = L at *
  -- the leaf's node of that depth is its sibling
  have hd : f.log2 ≤ H := by omega
  have eA : L / 2 ^ (H - Jn.log2) / 2 ^ (q - 1) = L / 2 ^ (H - f.log2) := by rw [div_div_pow]; congr 2; omega
  have hsib : f = (L / 2 ^ (H - f.log2)) ^^^ 1 := by
    refine sib ?_ (by rw [← eA]; exact q4)
    rw [← eA, ← hfe]
    have e1 : L / 2 ^ (H - Jn.log2) / 2 ^ (q - 1) / 2 = L / 2 ^ (H - Jn.log2) / 2 ^ q := by rw [show (2 : Nat) = 2 ^ 1 from rfl, div_div_pow]; congr 2; omega
    have e2 : Jn / 2 ^ (q - 1) / 2 = Jn / 2 ^ q := by rw [show (2 : Nat) = 2 ^ 1 from rfl, div_div_pow]; congr 2; omega
    rw [e1, e2, q3]
  -- it is below I
  have hlt : In.log2 < f.log2 := by
    rcases Nat.lt_or_ge In.log2 f.log2 with h | h
    · exact h
    · exfalso
      -- then f is above the leaf
      have fx := (abv_iff.1 f2).2
      have e : Jn.log2 - f.log2 = (Jn.log2 - In.log2) + (In.log2 - f.log2) := by omega
      rw [e, ← div_div_pow, x2] at fx
      have e3 : L / 2 ^ (H - f.log2) = f := by
        have e : H - f.log2 = (H - In.log2) + (In.log2 - f.log2) := by omega
        rw [e, ← div_div_pow, i2, fx]
      rw [e3] at hsib
      exact (xor_one f).2 hsib.symm
  have hIf : abv In f = true := by
    refine abv_iff.2 ⟨by omega, ?_⟩
    have x3 := x2
    have e : Jn.log2 - In.log2 = (Jn.log2 - f.log2) + (f.log2 - In.log2) := by omega
    rw [e, ← div_div_pow, (abv_iff.1 f2).2] at x3
    exact x3
  refine ⟨?_, by exact_mod_cast hf0, (path_join k1 f1 j1 hIf f2).2⟩
  have hpr : prP (H : Int) ((leafN H i.toNat : Nat) : Int) (In.log2 : Int) (f.log2 : Int) = ((In : Int), (f : Int)) := by
    rw [prP_nat l2 l3 (t := In.log2) (d := f.log2) hlt hd, hLe, ← hsib, i2]
  have hkeep : keepB (H : Int) k ((In : Int), (f : Int)) = true := by
    unfold keepB
    cases hk3 : k == 3 with
    | false => rfl
    | true =>
      have hk3' : k = 3 := eq_of_beq hk3
      have hu : useI (H : Int) ((In : Int), (Jn : Int)) = (true, 0) := by
        rw [hk3'] at hm
        unfold mayI at hm
        cases hmb : mayB3 (H : Int) 3 ((In : Int), (Jn : Int)) with
        | true => rw [hmb] at hm; cases hm
        | false => rw [hmb] at hm; exact hm
      have dn : ∀ {n : Nat}, okN H n = true → depthI (H : Int) (n : Int) = ((n.log2 : Int), 0) := fun {n} hn => by
        unfold depthI
        rw [chk_natOk hn, depI_nat (by have := (okN_iff.1 hn).2.2.1; omega)]; rfl
      have hb34 : f < 2 ^ 64 := by
        have := (okN_iff.1 f1).2.2.2
        have : 2 ^ (H + 1) ≤ 2 ^ 33 := Nat.pow_le_pow_right (by decide) (by omega)
        omega
      have hsf : subE (H : Int) ((In : Int), (f : Int)) = 0 := by
        rw [subE_nat (s := ((In : Int), (f : Int))) h1 (U64 hb34)]
        simp only [Int.toNat_natCast]
        have hne : In ≠ f := by rintro rfl; omega
        rw [okS_iff.2 ⟨k1, .inr ⟨f1, hIf, hne⟩⟩]; rfl
      have := use_near hu hs (by exact_mod_cast hf0) hsf (by rw [dn f1]) (by rw [dn f1, dn j1]; simp only; omega)
      rw [this]; rfl
  unfold pairsL
  rw [hn, show (k == 1) = false by simpa using hk, el]
  simp only [cond_false]
  rw [← hpr] at hkeep ⊢
  rw [hLe] at hkeep ⊢
  exact outG_at hlt (by rw [Int.toNat_natCast]; exact hd) hkeep (Nat.zero_le _) (by rw [Int.toNat_natCast]; omega)
/-- One without J. -/
theorem from_zero {h k i : Int} {s : Subset.D} (h1 : IntKind.u64.has s.1) (h2 : IntKind.u64.has s.2) (hi : IntKind.u64.has i) (hn : noPr h k i = false) (hm : mayI h k s = (true, 0)) (hh : hasI h s i = (true, 0)) (hs : s.2 = 0) : s ∈ (pairsL h k i).1 := by
  obtain ⟨n1, n2⟩ := noPr_ok hn
  obtain ⟨m1, m2, m3, _, _⟩ := many_ok n1
  obtain ⟨c0, c1, c2⟩ := hasU hi
  obtain ⟨a0, a1, a2⟩ := hasU h1
  have hok : okS h.toNat s.1.toNat s.2.toNat = true := by
    have := (may_sub hm).1
    rw [subE_nat h1 h2] at this
    cases ho : okS h.toNat s.1.toNat s.2.toNat with
    | true => rfl
    | false => rw [ho] at this; cases this
  have hlo : leafOk h.toNat i.toNat = true := by rw [leaf_ne c0 c1] at n2; simpa using n2
  have hN : hasN h.toNat s.1.toNat s.2.toNat i.toNat = true := by
    rw [has_nat h1 h2 hi, hok, hlo] at hh
    exact congrArg Prod.fst hh
  obtain ⟨l1, l2, l3⟩ := leafOk_iff.1 hlo
  have el := leaf_val c0 c1 hlo
  obtain ⟨I, J⟩ := s
  simp only at hs
  subst hs
  unfold pairsL
  rw [hn]
  simp only [cond_false]
  cases hk : k == 1 with
  | true =>
    simp only [cond_true]
    unfold hasN at hN
    simp only [Bool.and_eq_true] at hN
    obtain ⟨i1, i2⟩ := abv_iff.1 hN.1
    have a : LeafAt h.toNat i.toNat := ⟨l1, l2, l3⟩
    rw [a.log] at i1 i2
    rw [wG_eq, List.nil_append, List.mem_map]
    refine ⟨I.toNat.log2, List.mem_range.2 (by omega), ?_⟩
    have hlt := a.lt
    rw [el, Nat.zero_add, show h - ((I.toNat.log2 : Nat) : Int) = ((h.toNat - I.toNat.log2 : Nat) : Int) by omega, shr_nat (by omega) (by omega), Int.toNat_natCast, Int.toNat_natCast, i2, ← a2]
  | false =>
    simp only [cond_false]
    apply outG_sub
    have hI : I = 1 := by
      unfold mayI at hm
      cases hmb : mayB3 h k (I, 0) with
      | true => rw [hmb] at hm; cases hm
      | false =>
        rw [hmb, hk] at hm
        simp only [cond_false] at hm
        cases hk2 : k == 2 with
        | true =>
          rw [hk2] at hm
          have := congrArg Prod.fst hm
          simpa using this
        | false =>
          rw [hk2] at hm
          simp only [cond_false] at hm
          unfold useI at hm
          cases hsz : subE h (I, 0) != 0 with
          | true => rw [hsz] at hm; cases hm
          | false =>
            rw [hsz] at hm
            have := congrArg Prod.fst hm
            simpa using this
    rw [hI]
    exact List.mem_singleton.2 rfl
def partsL (t : Term.D) : List Int := bif t.1 == 2 then [t.2.1] else bif t.1 == 3 then [t.2.1] else bif t.1 == 4 then [t.2.1] else bif t.1 == 5 then [t.2.1, t.2.2] else []
theorem r74 (t : Term.D) : run (orc []) noL [] F74 (encA [.v Term] t) [.sl true I] =
    bif t.1 == 2 then some (.one (.sl true I none [t.2.1])) else bif t.1 == 3 then some (.one (.sl true I none [t.2.1])) else bif t.1 == 4 then some (.one (.sl true I none [t.2.1])) else
    bif t.1 == 5 then some (.one (.sl true I none [t.2.1, t.2.2])) else some (.one (.sl true I none [])) := by kernel_rfl
def s74 : Sp := .fn [.v Term] fun t => (true, .one (.sl true I none (partsL t)))
theorem g74 : GoodS Tryd.prog N74 s74 := by
  refine good (OrcOk.nil _) H74 rfl (by kernel_rfl) noL [] (noLoops (by kernel_rfl)) [.v Term] (by decide) [.sl true I] _ fun t r _ h => ?_
  cases h
  rw [r74, partsL]
  cases (t.1 == 2) <;> cases (t.1 == 3) <;> cases (t.1 == 4) <;> cases (t.1 == 5) <;> rfl
def badP (i p : Int) : Bool := bif decide (p < 0) then true else decide (p ≥ i)
theorem r121 (p i : Int) : run (orc []) noL [] F121 [.one (.int .i64 p), .one (.rp false I i 0)] [] = some (.one (.bool (badP i p))) := by kernel_rfl
def s121 : Sp := .fn [.v I, .raw] fun x => match x.2 with
  | .one (.rp false (.int .i64) i 0) => (true, .one (.bool (badP i x.1)))
  | _ => (false, AV.junk)
theorem g121 : GoodS Tryd.prog N121 s121 := by
  refine good (OrcOk.nil _) H121 rfl (by kernel_rfl) noL [] (noLoops (by kernel_rfl)) [.v I, .raw] (by decide) [] _ fun x r hw h => ?_
  obtain ⟨p, c⟩ := x
  simp only at h
  split at h
  · rename_i i
    cases h
    exact r121 p i
  · cases h
def idxFrom (f : Int → Bool) : List Int → Int → Int
  | [], _ => -1
  | x :: xs, i => bif f x then i else idxFrom f xs (i + 1)
def cl (c : AV) : Option (Int → Bool) :=
  match c with
  | .one (.fn f [.ptrD false (.int .i64) i]) => bif Nat.beq f N121 then some (badP i) else none
  | _ => none
theorem cl_some {c : AV} {p : Int → Bool} (h : cl c = some p) : ∃ k, c = .one (.fn N121 [.ptrD false I k]) ∧ p = badP k := by
  unfold cl at h
  split at h
  · rename_i f k
    cases hf : Nat.beq f N121 with
    | false => rw [hf] at h; cases h
    | true =>
      rw [hf] at h
      cases h
      obtain rfl := Nat.eq_of_beq_eq_true hf
      exact ⟨k, rfl, rfl⟩
  · cases h
abbrev live101 : List (Nat × List (Nat × Dir)) := [(0, [(0, .keep), (1, .keep), (4, .keep), (7, .keep), (8, .keep)])]
def Λ101 : Lam AV := fun cur vs K =>
  match cur, vs with
  | 0, [.one (.sl f (.int .i64) nl xs), c, .one (.int .i64 r), .one (.int .i64 n), .one (.int .i64 i)] =>
    match cl c with
    | some p =>
      bif decide (n = xs.length) && decide (0 ≤ i) && decide (i ≤ n) && decide (n ≤ 9223372036854775807) then
        (bif decide (idxFrom p (xs.drop i.toNat) i < 0) then K (.exit 0) [.one (.sl f (.int .i64) nl xs), c, .one (.int .i64 r), .one (.int .i64 n), .one (.int .i64 n)]
         else K .ret [.one (.sl f (.int .i64) nl xs), c, .one (.int .i64 (idxFrom p (xs.drop i.toNat) i)), .one (.int .i64 n), .one (.int .i64 (idxFrom p (xs.drop i.toNat) i))])
      else none
    | none => none
  | _, _ => none
def Γ101 : Orc := orc [(N121, s121)]
theorem step101 (f : Bool) (nl : Option Bool) (xs : List Int) (k : Int) (r n i : Int) (K : AE → List AV → Option AV) (fuel : Nat) :
    loopN (aexec tb Γ101 Λ101 ⟨19, 0, live101⟩ (loop1 F101).2 0) 19 0 [(0, .keep), (1, .keep), (4, .keep), (7, .keep), (8, .keep)] K (fuel + 1)
      [.one (.sl f I nl xs), .one (.fn N121 [.ptrD false I k]), .one (.int .i64 r), .one (.int .i64 n), .one (.int .i64 i)] =
    bif decide (i < n) then
      bif inB i xs.length then
        bif badP k (xs.getD i.toNat 0) then K .ret [.one (.sl f I nl xs), .one (.fn N121 [.ptrD false I k]), .one (.int .i64 i), .one (.int .i64 n), .one (.int .i64 i)]
        else loopN (aexec tb Γ101 Λ101 ⟨19, 0, live101⟩ (loop1 F101).2 0) 19 0 [(0, .keep), (1, .keep), (4, .keep), (7, .keep), (8, .keep)] K fuel
          [.one (.sl f I nl xs), .one (.fn N121 [.ptrD false I k]), .one (.int .i64 r), .one (.int .i64 n), .one (.int .i64 (IntKind.i64.wrap (i + 1)))]
      else none
    else K (.exit 0) [.one (.sl f I nl xs), .one (.fn N121 [.ptrD false I k]), .one (.int .i64 r), .one (.int .i64 n), .one (.int .i64 i)] := by kernel_rfl
theorem idxFrom_drop (p : Int → Bool) (xs : List Int) (i : Nat) (h : i < xs.length) : idxFrom p (xs.drop i) i = bif p (xs.getD i 0) then (i : Int) else idxFrom p (xs.drop (i + 1)) ((i + 1 : Nat) : Int) := by
  rw [List.drop_eq_getElem_cons h]
  simp [idxFrom, List.getD_eq_getElem?_getD, h]
theorem idxFrom_ge (p : Int → Bool) : ∀ (xs : List Int) (i : Int), idxFrom p xs i = -1 ∨ i ≤ idxFrom p xs i := by
  intro xs
  induction xs with
  | nil => intro i; exact .inl rfl
  | cons x xs ih =>
    intro i
    simp only [idxFrom]
    cases p x with
    | true => exact .inr (Int.le_refl i)
    | false => rcases ih (i + 1) with h | h
               · exact .inl h
               · exact .inr (by simp only [cond_false]; omega)
theorem loop101 : LoopP tb Γ101 Λ101 ⟨19, 0, live101⟩ (loop1 F101) := by
  intro vs K out h
  have hcur : (loop1 F101).1 = 0 := by kernel_rfl
  rw [hcur] at h ⊢
  unfold Λ101 at h
  split at h
  · rename_i f nl xs c r n i _
    split at h
    · rename_i p hp
      obtain ⟨k, rfl, rfl⟩ := cl_some hp
      · cases hc : (decide (n = xs.length) && decide (0 ≤ i) && decide (i ≤ n) && decide (n ≤ 9223372036854775807)) with
        | false => rw [hc] at h; cases h
        | true =>
          rw [hc] at h
          simp only [cond_true] at h
          simp only [Bool.and_eq_true, decide_eq_true_eq] at hc
          obtain ⟨⟨⟨hn, h0⟩, hi⟩, hmax⟩ := hc
          obtain ⟨j, rfl⟩ := Int.eq_ofNat_of_zero_le h0
          subst hn
          have key : ∀ (m j : Nat) (r : Int), j + m = xs.length → (bif decide (idxFrom (badP k) (xs.drop j) j < 0) then K (.exit 0) [.one (.sl f I nl xs), .one (.fn N121 [.ptrD false I k]), .one (.int .i64 r), .one (.int .i64 xs.length), .one (.int .i64 xs.length)]
              else K .ret [.one (.sl f I nl xs), .one (.fn N121 [.ptrD false I k]), .one (.int .i64 (idxFrom (badP k) (xs.drop j) j)), .one (.int .i64 xs.length), .one (.int .i64 (idxFrom (badP k) (xs.drop j) j))]) = some out →
              ∃ fuel, loopN (aexec tb Γ101 Λ101 ⟨19, 0, live101⟩ (loop1 F101).2 0) 19 0 [(0, .keep), (1, .keep), (4, .keep), (7, .keep), (8, .keep)] K fuel
                [.one (.sl f I nl xs), .one (.fn N121 [.ptrD false I k]), .one (.int .i64 r), .one (.int .i64 xs.length), .one (.int .i64 j)] = some out := by
            intro m
            induction m with
            | zero =>
              intro j r hj h
              refine ⟨1, ?_⟩
              rw [step101]
              have hd : decide ((j : Int) < (xs.length : Int)) = false := by simp; omega
              have hdr : xs.drop j = [] := List.drop_of_length_le (by omega)
              rw [hdr] at h
              simp only [idxFrom] at h
              have : (j : Int) = xs.length := by omega
              rw [hd, this]
              simpa using h
            | succ m ih =>
              intro j r hj h
              have hlt : j < xs.length := by omega
              have hd : decide ((j : Int) < (xs.length : Int)) = true := by simp; omega
              have hb : inB (j : Int) xs.length = true := by simp [inB]; omega
              rw [idxFrom_drop _ _ _ hlt] at h
              cases hx : badP k (xs.getD j 0) with
              | true =>
                refine ⟨1, ?_⟩
                rw [step101, hd, hb]
                simp only [cond_true, Int.toNat_natCast, hx]
                rw [hx] at h
                simp only [cond_true] at h
                have : decide ((j : Int) < 0) = false := by simp
                rw [this] at h
                exact h
              | false =>
                rw [hx] at h
                simp only [cond_false] at h
                obtain ⟨fuel, hf⟩ := ih (j + 1) r (by omega) h
                refine ⟨fuel + 1, ?_⟩
                rw [step101, hd, hb]
                simp only [cond_true, Int.toNat_natCast, hx, cond_false]
                rw [wrap64 (by omega) (by omega)]
                exact hf
          exact key (xs.length - j) j r (by omega) h
    · cases h
  · cases h
theorem r101 (xs : List Int) (k : Int) : run Γ101 Λ101 live101 F101 [.one (.sl false I none xs), .one (.fn N121 [.ptrD false I k])] [] =
    bif decide ((xs.length : Int) = xs.length) && decide ((0 : Int) ≤ 0) && decide ((0 : Int) ≤ (xs.length : Int)) && decide ((xs.length : Int) ≤ 9223372036854775807) then
      bif decide (idxFrom (badP k) (xs.drop (Int.toNat 0)) 0 < 0) then some (.one (.int .i64 (-1))) else some (.one (.int .i64 (idxFrom (badP k) (xs.drop (Int.toNat 0)) 0)))
    else none := by kernel_rfl
def s101 : Sp := .fn [.v (.sl I), .raw] fun x => match cl x.2 with
  | some p => (true, .one (.int .i64 (idxFrom p x.1 0)))
  | none => (false, AV.junk)
theorem Γ101ok : OrcOk Tryd.prog Γ101 := .cons g121 (.nil _)
theorem g101 : GoodS Tryd.prog N101 s101 := by
  refine good Γ101ok H101 rfl (by kernel_rfl) Λ101 live101 (oneLoop (p0 := loop1 F101) (by kernel_rfl) loop101) [.v (.sl I), .raw] (by decide) [] _ fun x r hw h => ?_
  obtain ⟨xs, c⟩ := x
  simp only at h
  split at h
  · rename_i p hp
    obtain ⟨k, rfl, rfl⟩ := cl_some hp
    · cases h
      refine (r101 xs k).trans ?_
      have hmax : (xs.length : Int) ≤ 9223372036854775807 := by have : xs.length ≤ 9223372036854775807 := hw.1.1; omega
      have h0 : (0 : Int) ≤ (xs.length : Int) := by omega
      simp only [decide_eq_true hmax, decide_eq_true h0, decide_true, Int.le_refl, Bool.and_self, cond_true, Int.toNat_zero, List.drop_zero]
      rcases idxFrom_ge (badP k) xs 0 with h | h
      · rw [h]; rfl
      · have : decide (idxFrom (badP k) xs 0 < 0) = false := by simpa using h
        rw [this]; rfl
  · cases h
def Γ67 : Orc := orc [(N101, s101)]
theorem r67 (xs : List Int) (k : Int) : run Γ67 noL [] F67 [.one (.sl false I none xs), .one (.fn N121 [.ptrD false I k])] [] = some (.one (.bool (decide (idxFrom (badP k) xs 0 ≥ 0)))) := by kernel_rfl
theorem idx_any (p : Int → Bool) : ∀ (xs : List Int) (i : Int), 0 ≤ i → decide (idxFrom p xs i ≥ 0) = xs.any p := by
  intro xs
  induction xs with
  | nil => intro i _; rfl
  | cons x xs ih =>
    intro i hi
    simp only [idxFrom, List.any_cons]
    rcases Bool.eq_false_or_eq_true (p x) with h | h
    · simp only [h, cond_true, Bool.true_or]; exact decide_eq_true hi
    · simp only [h, cond_false, Bool.false_or]; exact ih (i + 1) (by omega)
def s67 : Sp := .fn [.v (.sl I), .raw] fun x => match cl x.2 with
  | some p => (true, .one (.bool (x.1.any p)))
  | none => (false, AV.junk)
theorem g67 : GoodS Tryd.prog N67 s67 := by
  refine good (.cons g101 (.nil _)) H67 rfl (by kernel_rfl) noL [] (noLoops (by kernel_rfl)) [.v (.sl I), .raw] (by decide) [] _ fun x r hw h => ?_
  obtain ⟨xs, c⟩ := x
  simp only at h
  split at h
  · rename_i p hp
    obtain ⟨k, rfl, rfl⟩ := cl_some hp
    · cases h
      refine (r67 xs k).trans ?_
      rw [idx_any _ _ _ (Int.le_refl 0)]
  · cases h
def Γ104 : Orc := orc [(N67, s67), (N74, s74)]
def mayBad (t : Term.D) : Bool := bif bif decide (t.1 < 1) then true else decide (t.1 > 5) then true else bif t.1 != 5 then t.2.2 != 0 else false
def mayB (t : Term.D) (i : Int) : Bool :=
  bif mayBad t then false
  else bif t.1 == 1 then (bif decide (t.2.1 ≥ 0) then decide (t.2.1 ≤ 1048576) else false)
  else !(partsL t).any (badP i)
theorem r104 (t : Term.D) (i : Int) : run Γ104 noL [] F104 (encA [.v Term, .v I] (t, i)) [] =
    bif mayBad t then some (.one (.bool false)) else bif t.1 == 1 then some (.one (.bool (bif decide (t.2.1 ≥ 0) then decide (t.2.1 ≤ 1048576) else false))) else some (.one (.bool (! (partsL t).any (badP i)))) := by kernel_rfl
def s104 : Sp := .fn [.v Term, .v I] fun x => (true, .one (.bool (mayB x.1 x.2)))
theorem g104 : GoodS Tryd.prog N104 s104 := by
  refine good (.cons g67 (.cons g74 (.nil _))) H104 rfl (by kernel_rfl) noL [] (noLoops (by kernel_rfl)) [.v Term, .v I] (by decide) [] _ fun x r hw h => ?_
  obtain ⟨t, i⟩ := x
  cases h
  refine (r104 t i).trans ?_
  show _ = some (AV.one (SV.bool (mayB t i)))
  rw [mayB]
  cases mayBad t <;> cases (t.1 == 1) <;> rfl
end Go.AM.Seat
