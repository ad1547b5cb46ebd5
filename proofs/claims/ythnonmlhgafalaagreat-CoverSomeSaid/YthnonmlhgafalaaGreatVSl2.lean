import Derived.Test.YthnonmlhgafalaaGreatVSl1
set_option linter.unusedVariables false
set_option linter.unusedSimpArgs false
set_option maxRecDepth 100000
namespace Go.AM.Seat
open Go Go.AM Go.Proofs
def badS (h : Int) (s : Subset.D) : Bool := subE h s != 0
def hasS (h i : Int) (s : Subset.D) : Bool := bif (hasI h s i).2 == 0 then (hasI h s i).1 else false
theorem r340 (s : Subset.D) (h : Int) : run (orc [(N341, s341)]) noL [] F340 [encV Subset s, .one (.rp false I h 0)] [] = some (.one (.bool (badS h s))) := by kernel_rfl
def s340 : Sp := .fn [.v Subset, .raw] fun x => match x.2 with
  | .one (.rp false (.int .i64) h 0) => (true, .one (.bool (badS h x.1)))
  | _ => (false, AV.junk)
theorem g340 : GoodS Tryz.prog N340 s340 := by
  refine good (.cons g341 (.nil _)) H340 rfl (by kernel_rfl) noL [] (noLoops (by kernel_rfl)) [.v Subset, .raw] (by decide) [] _ fun x r hw h => ?_
  obtain ⟨s, c⟩ := x
  simp only at h
  split at h
  · rename_i i
    cases h
    exact r340 s i
  · cases h
theorem r343 (s : Subset.D) (h i : Int) : run (orc [(N312, s312)]) noL [] F343 [encV Subset s, .one (.rp false I h 0), .one (.rp false U i 0)] [] = some (.one (.bool (hasS h i s))) := by kernel_rfl
def s343 : Sp := .fn [.v Subset, .raw, .raw] fun x => match x.2.1, x.2.2 with
  | .one (.rp false (.int .i64) h 0), .one (.rp false (.int .u64) i 0) => (true, .one (.bool (hasS h i x.1)))
  | _, _ => (false, AV.junk)
theorem g343 : GoodS Tryz.prog N343 s343 := by
  refine good (.cons g312 (.nil _)) H343 rfl (by kernel_rfl) noL [] (noLoops (by kernel_rfl)) [.v Subset, .raw, .raw] (by decide) [] _ fun x r hw h => ?_
  obtain ⟨s, c, d⟩ := x
  simp only at h
  split at h
  · rename_i h' i
    cases h
    exact r343 s h' i
  · cases h
def idxP (f : Subset.D → Bool) : List Subset.D → Int → Int
  | [], _ => -1
  | x :: xs, i => bif f x then i else idxP f xs (i + 1)
theorem idxP_ge (p : Subset.D → Bool) : ∀ (xs : List Subset.D) (i : Int), idxP p xs i = -1 ∨ i ≤ idxP p xs i := by
  intro xs
  induction xs with
  | nil => intro i; exact .inl rfl
  | cons x xs ih =>
    intro i
    simp only [idxP]
    cases p x with
    | true => exact .inr (Int.le_refl i)
    | false => rcases ih (i + 1) with h | h
               · exact .inl h
               · exact .inr (by simp only [cond_false]; omega)
def clA (h : Int) : AV := .one (.fn N340 [.ptrD false I h])
def clB (h i : Int) : AV := .one (.fn N343 [.ptrD false I h, .ptrD false U i])
def clS (c : AV) : Option (Subset.D → Bool) :=
  match c with
  | .one (.fn f [.ptrD false (.int .i64) h]) => bif Nat.beq f N340 then some (badS h) else none
  | .one (.fn f [.ptrD false (.int .i64) h, .ptrD false (.int .u64) i]) => bif Nat.beq f N343 then some (hasS h i) else none
  | _ => none
theorem clS_some {c : AV} {p : Subset.D → Bool} (h : clS c = some p) : (∃ k, c = clA k ∧ p = badS k) ∨ ∃ k i, c = clB k i ∧ p = hasS k i := by
  unfold clS at h
  split at h
  · rename_i f k
    cases hf : Nat.beq f N340 with
    | false => rw [hf] at h; cases h
    | true =>
      rw [hf] at h
      cases h
      obtain rfl := Nat.eq_of_beq_eq_true hf
      exact .inl ⟨k, rfl, rfl⟩
  · rename_i f k i
    cases hf : Nat.beq f N343 with
    | false => rw [hf] at h; cases h
    | true =>
      rw [hf] at h
      cases h
      obtain rfl := Nat.eq_of_beq_eq_true hf
      exact .inr ⟨k, i, rfl, rfl⟩
  · cases h
abbrev live342 : List (Nat × Dir) := [(0, .keep), (1, .keep), (4, .keep), (7, .keep), (8, .keep)]
def vs342 (l : List Subset.D) (c : AV) (r n i : Int) : List AV := [.one (.sl false Subset none l), c, .one (.int .i64 r), .one (.int .i64 n), .one (.int .i64 i)]
def Γ342 : Orc := orc [(N340, s340), (N343, s343)]
def Λ342 : Lam AV := fun cur vs K =>
  match cur, vs with
  | 0, [.one (.sl false (.pair (.int .u64) (.int .u64)) none l), c, .one (.int .i64 r), .one (.int .i64 n), .one (.int .i64 0)] =>
    match clS c with
    | some p =>
      bif decide (n = l.length) && decide (n ≤ 9223372036854775807) then
        bif decide (idxP p l 0 < 0) then K (.exit 0) (vs342 l c r n n) else K .ret (vs342 l c (idxP p l 0) n (idxP p l 0))
      else none
    | none => none
  | _, _ => none
noncomputable abbrev lp342 (Λ : Lam AV) (K : AE → List AV → Option AV) (fuel : Nat) (vs : List AV) : Option AV := loopN (aexec tb Γ342 Λ ⟨19, 0, [(0, live342)]⟩ (loopK F342 0).2 0) 19 0 live342 K fuel vs
theorem step342a (l : List Subset.D) (h : Int) (r n i : Int) (Λ : Lam AV) (fuel : Nat) (K : AE → List AV → Option AV) : lp342 Λ K (fuel + 1) (vs342 l (clA h) r n i) =
    bif decide (i < n) then bif inB i l.length then bif badS h (sAt l i) then K .ret (vs342 l (clA h) i n i) else lp342 Λ K fuel (vs342 l (clA h) r n (IntKind.i64.wrap (i + 1))) else none else K (.exit 0) (vs342 l (clA h) r n i) := by kernel_rfl
theorem step342b (l : List Subset.D) (h x : Int) (r n i : Int) (Λ : Lam AV) (fuel : Nat) (K : AE → List AV → Option AV) : lp342 Λ K (fuel + 1) (vs342 l (clB h x) r n i) =
    bif decide (i < n) then bif inB i l.length then bif hasS h x (sAt l i) then K .ret (vs342 l (clB h x) i n i) else lp342 Λ K fuel (vs342 l (clB h x) r n (IntKind.i64.wrap (i + 1))) else none else K (.exit 0) (vs342 l (clB h x) r n i) := by kernel_rfl
theorem step342 {l : List Subset.D} {c : AV} {p : Subset.D → Bool} (hc : clS c = some p) (r n i : Int) (Λ : Lam AV) (fuel : Nat) (K : AE → List AV → Option AV) : lp342 Λ K (fuel + 1) (vs342 l c r n i) =
    bif decide (i < n) then bif inB i l.length then bif p (sAt l i) then K .ret (vs342 l c i n i) else lp342 Λ K fuel (vs342 l c r n (IntKind.i64.wrap (i + 1))) else none else K (.exit 0) (vs342 l c r n i) := by
  rcases clS_some hc with ⟨k, rfl, rfl⟩ | ⟨k, x, rfl, rfl⟩
  · exact step342a l k r n i Λ fuel K
  · exact step342b l k x r n i Λ fuel K
theorem loop342 : LoopP tb Γ342 Λ342 ⟨19, 0, [(0, live342)]⟩ (loopK F342 0) := by
  intro vs K out e
  have hcur : (loopK F342 0).1 = 0 := by kernel_rfl
  rw [hcur] at e ⊢
  unfold Λ342 at e
  split at e
  · rename_i l c r n _
    split at e
    · rename_i p hp
      cases hc : (decide (n = l.length) && decide (n ≤ 9223372036854775807)) with
      | false => rw [hc] at e; cases e
      | true =>
        rw [hc] at e
        simp only [cond_true] at e
        simp only [Bool.and_eq_true, decide_eq_true_eq] at hc
        obtain ⟨rfl, hmax⟩ := hc
        refine upLoop (α := Unit) (n := l.length) (F := fun fuel _ i => lp342 Λ342 K fuel (vs342 l c r l.length i))
          (G := fun j _ => bif decide (idxP p (l.drop j) j < 0) then K (.exit 0) (vs342 l c r l.length l.length) else K .ret (vs342 l c (idxP p (l.drop j) j) l.length (idxP p (l.drop j) j)))
          (fun fuel _ => ?_) (fun _ j hj => ?_) l.length 0 () out (by omega) e
        · simp only [step342 hp, nlt_dec, cond_false, List.drop_length, idxP]; rfl
        · cases hx : p (sAt l j) with
          | true =>
            right; intro fuel
            have h0 : decide ((j : Int) < 0) = false := by simp
            simp only [step342 hp, lt_dec hj, inB_lt hj, hx, cond_true, cond_false, sAt_drop hj, idxP, h0]
          | false =>
            left; refine ⟨(), fun fuel => ?_, ?_⟩
            · simp only [step342 hp, lt_dec hj, inB_lt hj, hx, cond_true, cond_false]
              rw [wrap64 (by omega) (by omega)]; rfl
            · simp only [sAt_drop hj, idxP, hx, cond_false]; rfl
    · cases e
  · cases e
def idxR (p : Subset.D → Bool) (l : List Subset.D) : Option AV :=
  bif decide ((l.length : Int) = l.length) && decide ((l.length : Int) ≤ 9223372036854775807) then bif decide (idxP p l 0 < 0) then some (.one (.int .i64 (-1))) else some (.one (.int .i64 (idxP p l 0))) else none
theorem r342a (l : List Subset.D) (h : Int) : run Γ342 Λ342 [(0, live342)] F342 [.one (.sl false Subset none l), clA h] [] = idxR (badS h) l := by kernel_rfl
theorem r342b (l : List Subset.D) (h i : Int) : run Γ342 Λ342 [(0, live342)] F342 [.one (.sl false Subset none l), clB h i] [] = idxR (hasS h i) l := by kernel_rfl
def s342 : Sp := .fn [.v (.sl Subset), .raw] fun x => match clS x.2 with
  | some p => (true, .one (.int .i64 (idxP p x.1 0)))
  | none => (false, AV.junk)
theorem g342 : GoodS Tryz.prog N342 s342 := by
  refine good (.cons g340 (.cons g343 (.nil _))) H342 rfl (by kernel_rfl) Λ342 [(0, live342)] (oneLoop (p0 := loopK F342 0) (by kernel_rfl) loop342) [.v (.sl Subset), .raw] (by decide) [] _ fun x r hw h => ?_
  obtain ⟨l, c⟩ := x
  simp only at h
  split at h
  · rename_i p hp
    have fin : idxR p l = some (.one (.int .i64 (idxP p l 0))) := by
      unfold idxR
      rw [lenMax hw.1.1]
      rcases idxP_ge p l 0 with h | h
      · rw [h]; rfl
      · have : decide (idxP p l 0 < 0) = false := by simpa using h
        rw [this]; rfl
    cases h
    rcases clS_some hp with ⟨k, rfl, rfl⟩ | ⟨k, i, rfl, rfl⟩
    · exact (r342a l k).trans fin
    · exact (r342b l k i).trans fin
  · cases h
theorem r339 (l : List Subset.D) (h : Int) : run (orc [(N342, s342)]) noL [] F339 [.one (.sl false Subset none l), clA h] [] = some (.one (.bool (decide (idxP (badS h) l 0 ≥ 0)))) := by kernel_rfl
def s339 : Sp := .fn [.v (.sl Subset), .raw] fun x => match x.2 with
  | .one (.fn f [.ptrD false (.int .i64) h]) => (Nat.beq f N340, .one (.bool (decide (idxP (badS h) x.1 0 ≥ 0))))
  | _ => (false, AV.junk)
theorem g339 : GoodS Tryz.prog N339 s339 := by
  refine good (.cons g342 (.nil _)) H339 rfl (by kernel_rfl) noL [] (noLoops (by kernel_rfl)) [.v (.sl Subset), .raw] (by decide) [] _ fun x r hw h => ?_
  obtain ⟨l, c⟩ := x
  simp only at h
  split at h
  · rename_i f k
    cases hf : Nat.beq f N340 with
    | false => rw [hf] at h; cases h
    | true =>
      rw [hf] at h
      cases h
      obtain rfl := Nat.eq_of_beq_eq_true hf
      exact r339 l k
  · cases h
def firstI (h i : Int) (l : List Subset.D) : Int × Int := bif (leafI h i).2 != 0 then (0, 1) else bif decide (idxP (badS h) l 0 ≥ 0) then (0, 1) else bif decide (idxP (hasS h i) l 0 < 0) then (0, 4) else (idxP (hasS h i) l 0, 0)
def Γ315 : Orc := orc [(N323, s323), (N339, s339), (N342, s342)]
theorem r315 (h i : Int) (l : List Subset.D) : run Γ315 noL [] F315 (encA [.v I, .v U, .v (.sl Subset)] (h, i, l)) [] =
    bif (leafI h i).2 != 0 then some (ri2 0 1) else bif decide (idxP (badS h) l 0 ≥ 0) then some (ri2 0 1) else bif decide (idxP (hasS h i) l 0 < 0) then some (ri2 0 4) else some (ri2 (idxP (hasS h i) l 0) 0) := by kernel_rfl
def s315 : Sp := .fn [.v I, .v U, .v (.sl Subset)] fun x => (true, ri2 (firstI x.1 x.2.1 x.2.2).1 (firstI x.1 x.2.1 x.2.2).2)
theorem g315 : GoodS Tryz.prog N315 s315 := by
  refine good (.cons g323 (.cons g339 (.cons g342 (.nil _)))) H315 rfl (by kernel_rfl) noL [] (noLoops (by kernel_rfl)) [.v I, .v U, .v (.sl Subset)] (by decide) [] _ fun x r hw e => ?_
  obtain ⟨h, i, l⟩ := x
  cases e
  refine (r315 h i l).trans ?_
  show _ = some (ri2 (firstI h i l).1 (firstI h i l).2)
  unfold firstI
  cases (leafI h i).2 != 0 with
  | true => rfl
  | false =>
    simp only [cond_false]
    cases decide (idxP (badS h) l 0 ≥ 0) with
    | true => rfl
    | false =>
      simp only [cond_false]
      cases decide (idxP (hasS h i) l 0 < 0) <;> rfl
def allK (R : Nat → Option AV) (E : Option AV) (bad : Nat → Bool) : Nat → Nat → Option AV
  | 0, _ => E
  | m + 1, j => bif bad j then R j else allK R E bad m (j + 1)
theorem bad_iff {h n : Int} : badN h n = false ↔ highB h = true ∧ 1 ≤ n ∧ depI n ≤ h := by
  refine ⟨bad_false, fun ⟨h1, h2, h3⟩ => ?_⟩
  unfold badN
  rw [h1, decide_eq_false (show ¬ n < 1 by omega)]
  exact decide_eq_false (by omega)
theorem dep_nat {n : Int} (h : 1 ≤ n) : depI n = (n.toNat.log2 : Int) := by
  obtain ⟨m, rfl⟩ := Int.eq_ofNat_of_zero_le (show 0 ≤ n by omega)
  unfold depI
  rw [lenI_nat (by omega)]
  show ((m.log2 : Int) + 1) - 1 = _
  rw [Int.toNat_natCast]; omega
theorem chk_nat {h n : Int} (h0 : 0 ≤ n) : chkI h n = bif okN h.toNat n.toNat then 0 else 1 := by
  have key : badN h n = !okN h.toNat n.toNat := by
    cases ho : okN h.toNat n.toNat with
    | true =>
      obtain ⟨h1, h2, h3, h4⟩ := okN_iff.1 ho
      refine bad_iff.2 ⟨highB_iff.2 (by omega), by omega, ?_⟩
      rw [dep_nat (by omega)]
      have := (okN_log (h := h.toNat) (n := n.toNat) (by omega)).1 h4
      omega
    | false =>
      cases hb : badN h n with
      | true => rfl
      | false =>
        obtain ⟨h1, h2, h3⟩ := bad_iff.1 hb
        have h1 := highB_iff.1 h1
        rw [dep_nat h2] at h3
        have : okN h.toNat n.toNat = true := okN_iff.2 ⟨by omega, by omega, by omega, (okN_log (by omega)).2 (by omega)⟩
        rw [this] at ho; cases ho
  unfold chkI; rw [key]
  cases okN h.toNat n.toNat <;> rfl
theorem shl_nat {a k : Nat} (hk : k ≤ 64) (h : a * 2 ^ k < 2 ^ 64) : shlI a k = ((a * 2 ^ k : Nat) : Int) := by
  unfold shlI
  rw [Int.toNat_natCast, Nat.min_eq_left hk, wrapU]
  · simp
  · exact Int.mul_nonneg (by omega) (Int.le_of_lt (Int.pow_pos (by decide)))
  · have : ((a * 2 ^ k : Nat) : Int) < 18446744073709551616 := by omega
    have e : ((a * 2 ^ k : Nat) : Int) = (a : Int) * 2 ^ k := by simp
    rw [← e]; omega
theorem pow32 {h : Nat} (h1 : h ≤ 32) : 2 ^ h ≤ 2 ^ 32 := Nat.pow_le_pow_right (by decide) h1
theorem or_nat {a b : Nat} (ha : a < 2 ^ 64) (hb : b < 2 ^ 64) : orU a b = ((a ||| b : Nat) : Int) := by
  unfold orU
  have e1 : (BitVec.ofInt 64 (a : Int)).toNat = a := by rw [BitVec.toNat_ofInt]; omega
  have e2 : (BitVec.ofInt 64 (b : Int)).toNat = b := by rw [BitVec.toNat_ofInt]; omega
  rw [BitVec.toNat_or, e1, e2, wrapU]
  · omega
  · have := Nat.or_lt_two_pow ha hb; omega
def leafV (h i : Nat) : Int × Int := bif decide (1 ≤ h) && decide (h ≤ 32) then bif decide (i < 2 ^ h) then ((leafN h i : Nat), 0) else (0, 4) else (0, 1)
theorem leaf_nat {h i : Int} (h0 : 0 ≤ i) (h1 : i.toNat < 2 ^ 64) : leafI h i = leafV h.toNat i.toNat := by
  unfold leafI leafV
  cases hh : highB h with
  | false =>
    have : ¬ (1 ≤ h ∧ h ≤ 32) := fun h => by rw [highB_iff.2 h] at hh; cases hh
    have e : (decide (1 ≤ h.toNat) && decide (h.toNat ≤ 32)) = false := by
      cases h2 : decide (1 ≤ h.toNat) with
      | false => rfl
      | true => exact decide_eq_false (by have := of_decide_eq_true h2; omega)
    rw [e]; rfl
  | true =>
    have h2 := highB_iff.1 hh
    have e : (decide (1 ≤ h.toNat) && decide (h.toNat ≤ 32)) = true := by simp; omega
    rw [e]
    simp only [Bool.not_true, cond_true, cond_false]
    have e2 : h = (h.toNat : Int) := by omega
    rw [shr_nat h0 (by omega)]
    have hp := pow32 (h := h.toNat) (by omega)
    have hp0 := Nat.two_pow_pos h.toNat
    cases hi : decide (i.toNat < 2 ^ h.toNat) with
    | false =>
      have hi := of_decide_eq_false hi
      have : 0 < i.toNat / 2 ^ h.toNat := Nat.div_pos (by omega) hp0
      rw [decide_eq_true (by omega)]; rfl
    | true =>
      have hi := of_decide_eq_true hi
      have : i.toNat / 2 ^ h.toNat = 0 := Nat.div_eq_of_lt hi
      rw [this, decide_eq_false (by omega)]
      simp only [cond_false, cond_true]
      have e3 : shlI 1 h = ((2 ^ h.toNat : Nat) : Int) := by
        have := shl_nat (a := 1) (k := h.toNat) (by omega) (by omega)
        rw [← e2, Nat.one_mul] at this; exact this
      have e4 : i = (i.toNat : Int) := by omega
      have e5 : orU (shlI 1 h) i = ((leafN h.toNat i.toNat : Nat) : Int) := by
        rw [e3, e4, or_nat (by omega) (by omega)]
        have := Nat.two_pow_add_eq_or_of_lt hi 1
        rw [Nat.mul_one] at this
        rw [Int.toNat_natCast, ← this]; rfl
      rw [e5]
theorem above_nat {a b : Int} (ha : 1 ≤ a) (hb : 1 ≤ b) (h64 : b.toNat < 2 ^ 64) : aboveB a b = abv a.toNat b.toNat := by
  unfold aboveB abv
  rw [dep_nat ha, dep_nat hb]
  have hl : b.toNat.log2 < 64 := (Nat.log2_lt (by omega)).2 h64
  cases h : decide (a.toNat.log2 ≤ b.toNat.log2) with
  | false =>
    rw [decide_eq_false (by have := of_decide_eq_false h; omega)]; rfl
  | true =>
    have h := of_decide_eq_true h
    rw [decide_eq_true (by omega), shr_nat (by omega) (by omega)]
    simp only [cond_true, Bool.true_and]
    have e : ((b.toNat.log2 : Int) - (a.toNat.log2 : Int)).toNat = b.toNat.log2 - a.toNat.log2 := by omega
    rw [e]
    apply Bool.eq_iff_iff.2
    simp only [beq_iff_eq]
    omega
theorem okN_pow {h n : Nat} (hk : okN h n = true) : 2 ^ h ≤ n * 2 ^ (h - n.log2) ∧ n * 2 ^ (h - n.log2) + 2 ^ (h - n.log2) ≤ 2 ^ (h + 1) ∧ n.log2 ≤ h := by
  obtain ⟨h1, h2, h3, h4⟩ := okN_iff.1 hk
  have hl := (okN_log (h := h) (n := n) (by omega)).1 h4
  have a := log2_le (n := n) (by omega)
  have b := lt_log2 (n := n)
  have e1 : 2 ^ h = 2 ^ n.log2 * 2 ^ (h - n.log2) := by rw [← Nat.pow_add]; congr 1; omega
  have e2 : 2 ^ (h + 1) = 2 ^ (n.log2 + 1) * 2 ^ (h - n.log2) := by rw [← Nat.pow_add]; congr 1; omega
  refine ⟨?_, ?_, hl⟩
  · rw [e1]; exact Nat.mul_le_mul_right _ a
  · rw [e2, ← Nat.succ_mul]; exact Nat.mul_le_mul_right _ b
theorem within_nat {h n i : Int} (h0 : 0 ≤ n) (hi0 : 0 ≤ i) (hk : okN h.toNat n.toNat = true) (hi : i.toNat < 2 ^ h.toNat) : (leavesI h n).2 = 0 ∧ within (leavesI h n).1 i = abv n.toNat (leafN h.toNat i.toNat) := by
  have hc : (chkI h n != 0) = false := by rw [chk_nat h0, hk]; rfl
  obtain ⟨h1, h2, h3⟩ := chk_zero hc
  have h1 := highB_iff.1 h1
  obtain ⟨p1, p2, p3⟩ := okN_pow hk
  have hp := pow32 (h := h.toNat) (by omega)
  have hp1 : 2 ^ (h.toNat + 1) = 2 * 2 ^ h.toNat := by rw [Nat.pow_succ]; omega
  unfold leavesI
  rw [hc, dep_nat h2]
  refine ⟨rfl, ?_⟩
  simp only [cond_false]
  have ed : h - (n.toNat.log2 : Int) = ((h.toNat - n.toNat.log2 : Nat) : Int) := by omega
  rw [ed]
  have hll := leafN_log2 hi
  have ell : leafN h.toNat i.toNat = 2 ^ h.toNat + i.toNat := rfl
  generalize hD : h.toNat - n.toNat.log2 = d at *
  have hd0 := Nat.two_pow_pos d
  have e1 : shlI n d = ((n.toNat * 2 ^ d : Nat) : Int) := by
    have := shl_nat (a := n.toNat) (k := d) (by omega) (by omega)
    rw [← this]; congr 1; omega
  have e2 : shlI 1 h = ((2 ^ h.toNat : Nat) : Int) := by
    have := shl_nat (a := 1) (k := h.toNat) (by omega) (by omega)
    rw [Nat.one_mul] at this
    rw [← this]; congr 1; omega
  have e3 : shlI 1 d = ((2 ^ d : Nat) : Int) := by
    have hd : 2 ^ d ≤ 2 ^ 32 := pow32 (by omega)
    have := shl_nat (a := 1) (k := d) (by omega) (by omega)
    rw [Nat.one_mul] at this
    exact this
  have hlow : lowI h n d = ((n.toNat * 2 ^ d - 2 ^ h.toNat : Nat) : Int) := by
    unfold lowI
    rw [e1, e2, wrapU (by omega) (by omega)]; omega
  have htop : topI h n d = ((n.toNat * 2 ^ d - 2 ^ h.toNat + 2 ^ d - 1 : Nat) : Int) := by
    have hd0 := Nat.two_pow_pos d
    unfold topI
    rw [hlow, e3, wrapU (n := _ + _) (by omega) (by omega), wrapU (by omega) (by omega)]; omega
  rw [hlow, htop]
  have hd0 := Nat.two_pow_pos d
  unfold within abv
  rw [hll, hD, decide_eq_true p3, Bool.true_and]
  apply Bool.eq_iff_iff.2
  simp only [beq_iff_eq]
  rw [Nat.div_eq_iff hd0, ell]
  constructor
  · intro hx
    cases hy : decide (((n.toNat * 2 ^ d - 2 ^ h.toNat : Nat) : Int) ≤ i) with
    | false => rw [hy] at hx; cases hx
    | true =>
      rw [hy] at hx
      have hx := of_decide_eq_true hx
      have hy := of_decide_eq_true hy
      constructor <;> omega
  · rintro ⟨ha, hb⟩
    rw [decide_eq_true (by omega)]
    exact decide_eq_true (by omega)
def leafOk (h i : Nat) : Bool := decide (1 ≤ h) && decide (h ≤ 32) && decide (i < 2 ^ h)
theorem leafOk_iff {h i : Nat} : leafOk h i = true ↔ 1 ≤ h ∧ h ≤ 32 ∧ i < 2 ^ h := by simp [leafOk, and_assoc]
theorem leafV_err {h i : Nat} : ((leafV h i).2 == 0) = leafOk h i := by
  unfold leafV leafOk
  cases decide (1 ≤ h) && decide (h ≤ 32) with
  | false => rfl
  | true => cases decide (i < 2 ^ h) <;> rfl
theorem leaf_err {h i : Int} (h0 : 0 ≤ i) (h1 : i.toNat < 2 ^ 64) : ((leafI h i).2 == 0) = leafOk h.toNat i.toNat := by rw [leaf_nat h0 h1]; exact leafV_err
theorem okN_one {h : Nat} : okN h 1 = (decide (1 ≤ h) && decide (h ≤ 32)) := by
  apply Bool.eq_iff_iff.2
  rw [okN_iff]
  simp only [Bool.and_eq_true, decide_eq_true_eq]
  constructor
  · rintro ⟨a, b, _, _⟩; exact ⟨a, b⟩
  · rintro ⟨a, b⟩
    have : 2 ^ 1 ≤ 2 ^ (h + 1) := Nat.pow_le_pow_right (by decide) (by omega)
    exact ⟨a, b, Nat.le_refl 1, by omega⟩
theorem chk_ne {h n : Int} (h0 : 0 ≤ n) : (chkI h n != 0) = !okN h.toNat n.toNat := by
  rw [chk_nat h0]; cases okN h.toNat n.toNat <;> rfl
theorem noLeaf_nat {h i : Int} (h0 : 0 ≤ i) (h1 : i.toNat < 2 ^ 64) : noLeaf h i = !leafOk h.toNat i.toNat := by
  unfold noLeaf lchk
  rw [leaf_err h0 h1, chk_ne (by decide)]
  show (bif (bif !okN h.toNat 1 then (1 : Int) else 0) != 0 then true else !leafOk h.toNat i.toNat) = _
  rw [okN_one]
  unfold leafOk
  cases decide (1 ≤ h.toNat) && decide (h.toNat ≤ 32) <;> cases decide (i.toNat < 2 ^ h.toNat) <;> rfl
theorem subE_nat {h : Int} {s : Int × Int} (h1 : IntKind.u64.has s.1) (h2 : IntKind.u64.has s.2) : subE h s = bif okS h.toNat s.1.toNat s.2.toNat then 0 else 1 := by
  obtain ⟨i, j⟩ := s
  obtain ⟨a0, a1, a2⟩ := hasU h1
  obtain ⟨b0, b1, b2⟩ := hasU h2
  simp only at a0 a1 a2 b0 b1 b2 ⊢
  unfold subE okS
  simp only
  have e0 : (j == 0) = (j.toNat == 0) := by apply Bool.eq_iff_iff.2; simp; omega
  rw [e0]
  cases hj : j.toNat == 0 with
  | true =>
    simp only [cond_true, Bool.true_or, Bool.and_true]
    exact chk_nat a0
  | false =>
    simp only [cond_false, Bool.false_or]
    have hj : j.toNat ≠ 0 := by simpa using hj
    have e1 : (aboveI h i j) = bif okN h.toNat i.toNat && okN h.toNat j.toNat then (aboveB i j, 0) else (false, 1) := by
      unfold aboveI bothI both
      rw [chk_ne a0, chk_ne b0]
      cases okN h.toNat i.toNat <;> cases okN h.toNat j.toNat <;> rfl
    rw [e1]
    cases ho : okN h.toNat i.toNat with
    | false => rfl
    | true =>
      cases hp : okN h.toNat j.toNat with
      | false => rfl
      | true =>
        have hi := (okN_iff.1 ho).2.2.1
        rw [above_nat (by omega) (by omega) b1]
        have e2 : (i == j) = (i.toNat == j.toNat) := by apply Bool.eq_iff_iff.2; simp; omega
        show (bif bif !(abv i.toNat j.toNat) then true else i == j then (1 : Int) else 0) = bif abv i.toNat j.toNat && i.toNat != j.toNat then 0 else 1
        rw [e2]
        unfold bne
        cases abv i.toNat j.toNat <;> cases i.toNat == j.toNat <;> rfl
theorem subE_ne {h : Int} {s : Int × Int} (h1 : IntKind.u64.has s.1) (h2 : IntKind.u64.has s.2) : (subE h s != 0) = !okS h.toNat s.1.toNat s.2.toNat := by
  rw [subE_nat h1 h2]; cases okS h.toNat s.1.toNat s.2.toNat <;> rfl
theorem has_nat {h i : Int} {s : Int × Int} (h1 : IntKind.u64.has s.1) (h2 : IntKind.u64.has s.2) (hi : IntKind.u64.has i) :
    hasI h s i = bif okS h.toNat s.1.toNat s.2.toNat && leafOk h.toNat i.toNat then (hasN h.toNat s.1.toNat s.2.toNat i.toNat, 0) else (false, 1) := by
  obtain ⟨c0, c1, c2⟩ := hasU hi
  obtain ⟨a0, a1, a2⟩ := hasU h1
  obtain ⟨b0, b1, b2⟩ := hasU h2
  unfold hasI badH inS bothS
  rw [noLeaf_nat c0 c1, subE_ne h1 h2]
  cases hk : okS h.toNat s.1.toNat s.2.toNat with
  | false =>
    rw [show subE h s = 1 by rw [subE_nat h1 h2, hk]; rfl]; rfl
  | true =>
    obtain ⟨k1, k2⟩ := okS_iff.1 hk
    simp only [Bool.not_true, cond_false, Bool.true_and]
    have e0 : (s.2 == 0) = (s.2.toNat == 0) := by apply Bool.eq_iff_iff.2; simp; omega
    cases hl : leafOk h.toNat i.toNat with
    | false =>
      simp only [Bool.not_false, cond_true]
      have : ∀ b : Bool, (bif b then true else (1 : Int) != 0) = true := by intro b; cases b <;> rfl
      rw [this]; rfl
    | true =>
      have hl := (leafOk_iff.1 hl).2.2
      obtain ⟨w1, w2⟩ := within_nat a0 c0 k1 hl
      have w1' : ((leavesI h s.1).2 == 0) = true := by rw [w1]; rfl
      simp only [Bool.not_true, cond_false, cond_true, w1']
      unfold hasN
      cases hj : s.2.toNat == 0 with
      | true =>
        have : (s.2 != 0) = false := by unfold bne; rw [e0, hj]; rfl
        rw [this, e0, hj]
        simp only [cond_false, cond_true, w1, w2, Bool.true_or, Bool.and_true]
        cases abv s.1.toNat (leafN h.toNat i.toNat) <;> rfl
      | false =>
        have : (s.2 != 0) = true := by unfold bne; rw [e0, hj]; rfl
        rw [this, e0, hj]
        have hj : s.2.toNat ≠ 0 := by simpa using hj
        obtain ⟨j1, j2, j3⟩ := k2.resolve_left hj
        obtain ⟨x1, x2⟩ := within_nat b0 c0 j1 hl
        simp only [cond_false, cond_true, x1, x2, w2, Bool.false_or]
        cases abv s.1.toNat (leafN h.toNat i.toNat) <;> cases abv s.2.toNat (leafN h.toNat i.toNat) <;> rfl
theorem idxP_spec (p : Int × Int → Bool) : ∀ (l : List (Int × Int)) (i : Int), 0 ≤ i → idxP p l i ≥ 0 → i ≤ idxP p l i ∧ idxP p l i < i + l.length ∧ p (l.getD (idxP p l i - i).toNat (0, 0)) = true ∧ ∀ j : Nat, (j : Int) < idxP p l i - i → p (l.getD j (0, 0)) = false := by
  intro l
  induction l with
  | nil => intro i _ h; exact absurd h (by show ¬ ((-1 : Int) ≥ 0); decide)
  | cons x l ih =>
    intro i hi h
    simp only [idxP] at h ⊢
    cases hx : p x with
    | true =>
      simp only [cond_true]
      refine ⟨Int.le_refl i, by simp only [List.length_cons]; omega, ?_, fun j hj => by omega⟩
      rw [show (i - i).toNat = 0 by omega]; exact hx
    | false =>
      rw [hx] at h
      simp only [cond_false] at h ⊢
      obtain ⟨h1, h2, h3, h4⟩ := ih (i + 1) (by omega) h
      refine ⟨by omega, by simp only [List.length_cons]; omega, ?_, fun j hj => ?_⟩
      · rw [show (idxP p l (i + 1) - i).toNat = (idxP p l (i + 1) - (i + 1)).toNat + 1 by omega]
        exact h3
      · cases j with
        | zero => exact hx
        | succ j => exact h4 j (by omega)
theorem idxP_none (p : Int × Int → Bool) : ∀ (l : List (Int × Int)) (i : Int), 0 ≤ i → ¬ idxP p l i ≥ 0 → ∀ x ∈ l, p x = false := by
  intro l
  induction l with
  | nil => intro i _ _ x hx; cases hx
  | cons y l ih =>
    intro i hi h x hx
    simp only [idxP] at h
    cases hy : p y with
    | true => rw [hy] at h; exact absurd hi h
    | false =>
      rw [hy] at h
      rcases List.mem_cons.1 hx with rfl | hx
      · exact hy
      · exact ih (i + 1) (by omega) h x hx
def badP (i p : Int) : Bool := bif decide (p < 0) then true else decide (p ≥ i)
def idxFrom (f : Int → Bool) : List Int → Int → Int
  | [], _ => -1
  | x :: xs, i => bif f x then i else idxFrom f xs (i + 1)
def cl (c : AV) : Option (Int → Bool) :=
  match c with
  | .one (.fn f [.ptrD false (.int .i64) i]) => bif Nat.beq f N121 then some (badP i) else none
  | _ => none
abbrev live101 : List (Nat × List (Nat × Dir)) := [(0, [(0, .keep), (1, .keep), (4, .keep), (7, .keep), (8, .keep)])]
theorem idxFrom_drop (p : Int → Bool) (xs : List Int) (i : Nat) (h : i < xs.length) : idxFrom p (xs.drop i) i = bif p (xs.getD i 0) then (i : Int) else idxFrom p (xs.drop (i + 1)) ((i + 1 : Nat) : Int) := by
  rw [List.drop_eq_getElem_cons h]
  simp [idxFrom, List.getD_eq_getElem?_getD, h]
theorem idxFrom_ge (p : Int → Bool) : ∀ (xs : List Int) (i : Int), idxFrom p xs i = -1 ∨ i ≤ idxFrom p xs i := by
  intro xs
  induction xs with
  | nil => intro i; exact .inl rfl
  | cons x xs ih =>
    intro i
    simp only [idxFrom]
    cases p x with
    | true => exact .inr (Int.le_refl i)
    | false => rcases ih (i + 1) with h | h
               · exact .inl h
               · exact .inr (by simp only [cond_false]; omega)
theorem idx_any (p : Int → Bool) : ∀ (xs : List Int) (i : Int), 0 ≤ i → decide (idxFrom p xs i ≥ 0) = xs.any p := by
  intro xs
  induction xs with
  | nil => intro i _; rfl
  | cons x xs ih =>
    intro i hi
    simp only [idxFrom, List.any_cons]
    rcases Bool.eq_false_or_eq_true (p x) with h | h
    · simp only [h, cond_true, Bool.true_or]; exact decide_eq_true hi
    · simp only [h, cond_false, Bool.false_or]; exact ih (i + 1) (by omega)
theorem nl_split {w : World} {okA : Nat → Prop} {f : Bool} {t : Ty} {xs : List t.D} {v : Go.Value} (h : AVRel w μ0 (argOK okA) (.one (.sl f t none xs)) v) :
    (xs = [] ∧ AVRel w μ0 (argOK okA) (.one (.sl f t (some true) xs)) v) ∨ AVRel w μ0 (argOK okA) (.one (.sl f t (some false) xs)) v := by
  obtain ⟨h1, _⟩ := h
  obtain ⟨A, c, e, g1, g2, g3⟩ := id h1
  simp only [List.cons.injEq, and_true] at e
  subst e
  rcases g3 with ⟨rfl, rfl, rfl⟩ | ⟨b, o, ⟨sp, rfl, _⟩, _⟩
  · exact .inl ⟨rfl, h1, rfl⟩
  · exact .inr ⟨h1, _, _, _, rfl⟩
theorem good_nl {P : Program} {f : FuncId} {t : Ty} {xs : List t.D} {r : AV} (h1 : xs = [] → Good P f [.one (.sl false t (some true) xs)] r) (h2 : Good P f [.one (.sl false t (some false) xs)] r) : Good P f [.one (.sl false t none xs)] r := by
  intro w okA vs hA hl
  cases hl with
  | @cons _ v _ vs' hv ht =>
    rcases nl_split hv with ⟨e, hv'⟩ | hv'
    · exact h1 e w okA _ hA (.cons hv' ht)
    · exact h2 w okA _ hA (.cons hv' ht)
def oddB (s : Int) : Bool := IntKind.i64.wrap (BitVec.ofInt 64 s &&& ~~~(BitVec.ofInt 64 1)).toNat != 0
def idxN (p : Int → Bool) : Nat → Nat → Int
  | 0, _ => -1
  | m + 1, j => bif p j then (j : Int) else idxN p m (j + 1)
theorem findN {ρ : Type} {n : Nat} {ok ans : Int → Bool} {F : Nat → Int → Option ρ} {Kx Kr : Int → Option ρ} (hmax : (n : Int) ≤ 9223372036854775807)
    (step : ∀ fuel (i : Int), F (fuel + 1) i = bif decide (i < n) then bif ok i then bif ans i then Kr i else F fuel (IntKind.i64.wrap (i + 1)) else none else Kx i)
    (hall : ∀ j : Nat, j < n → ok j = true) {out : ρ} (h : (bif decide (idxN ans n 0 < 0) then Kx n else Kr (idxN ans n 0)) = some out) : ∃ fuel, F fuel 0 = some out := by
  have key : ∀ (m j : Nat), j + m = n → (bif decide (idxN ans m j < 0) then Kx n else Kr (idxN ans m j)) = some out → ∃ fuel, F fuel j = some out := by
    intro m
    induction m with
    | zero =>
      intro j hj h
      obtain rfl : j = n := by omega
      exact ⟨1, by rw [step, nlt_dec]; exact h⟩
    | succ m ih =>
      intro j hj h
      have hlt : j < n := by omega
      cases hp : ans j with
      | true =>
        have e : idxN ans (m + 1) j = j := by rw [idxN, hp]; rfl
        rw [e, decide_eq_false (show ¬ ((j : Nat) : Int) < 0 by omega)] at h
        exact ⟨1, by rw [step, lt_dec hlt, hall j hlt, hp]; exact h⟩
      | false =>
        have e : idxN ans (m + 1) j = idxN ans m (j + 1) := by rw [idxN, hp]; rfl
        rw [e] at h
        obtain ⟨fuel, hf⟩ := ih (j + 1) (by omega) h
        exact ⟨fuel + 1, by rw [step, lt_dec hlt, hall j hlt, hp, wrap64 (n := (j : Int) + 1) (by omega) (by omega)]; exact hf⟩
  exact key n 0 (by omega) h
theorem idxN_lt (p : Int → Bool) : ∀ (m j : Nat), decide (idxN p m j < 0) = true ↔ ∀ k : Nat, j ≤ k → k < j + m → p k = false := by
  intro m
  induction m with
  | zero => intro j; exact ⟨fun _ k h1 h2 => by omega, fun _ => rfl⟩
  | succ m ih =>
    intro j
    cases hp : p j with
    | true =>
      have e : idxN p (m + 1) j = j := by rw [idxN, hp]; rfl
      rw [e, decide_eq_false (show ¬ ((j : Nat) : Int) < 0 by omega)]
      exact ⟨fun h => (by cases h), fun h => by rw [h j (Nat.le_refl _) (by omega)] at hp; cases hp⟩
    | false =>
      have e : idxN p (m + 1) j = idxN p m (j + 1) := by rw [idxN, hp]; rfl
      rw [e, ih]
      refine ⟨fun h k h1 h2 => ?_, fun h k h1 h2 => h k (by omega) (by omega)⟩
      rcases Nat.eq_or_lt_of_le h1 with rfl | h3
      · exact hp
      · exact h k h3 (by omega)
def anyN (p : Int → Bool) (n : Nat) : Bool := !decide (idxN p n 0 < 0)
theorem anyN_iff {p : Int → Bool} {n : Nat} : anyN p n = true ↔ ∃ k : Nat, k < n ∧ p k = true := by
  unfold anyN
  constructor
  · intro h
    rcases Classical.em (∃ k : Nat, k < n ∧ p k = true) with h9 | h9
    · exact h9
    · have : decide (idxN p n 0 < 0) = true := (idxN_lt p n 0).2 fun k _ hk => by
        cases hp : p k with
        | true => exact absurd ⟨k, by omega, hp⟩ h9
        | false => rfl
      rw [this] at h; cases h
  · rintro ⟨k, h1, h2⟩
    cases hd : decide (idxN p n 0 < 0) with
    | true => have := (idxN_lt p n 0).1 hd k (Nat.zero_le _) (by omega); rw [this] at h2; cases h2
    | false => rfl
theorem anyN_not {p : Int → Bool} {n : Nat} : decide (idxN p n 0 < 0) = !anyN p n := by unfold anyN; rw [Bool.not_not]
def Γ416 : Orc := orc [(N366, s366), (N330, s330)]
def ru2 (a e : Int) : AV := .tup [(false, [.int .u64 a]), (false, [.int .i64 e])]
def childI (h n i : Int) : Int × Int := bif bif chkI h n != 0 then true else oddB i then (0, 1) else bif depI n == h then (0, 4) else (orU (shlI n 1) (IntKind.u64.wrap i), 0)
theorem r416 (h n i : Int) : run Γ416 noL [] F416 (encA [.v I, .v U, .v I] (h, n, i)) [] =
    bif bif chkI h n != 0 then true else oddB i then some (ru2 0 1) else bif depI n == h then some (ru2 0 4) else some (ru2 (orU (shlI n 1) (IntKind.u64.wrap i)) 0) := by kernel_rfl
def s416 : Sp := .fn [.v I, .v U, .v I] fun x => (true, ru2 (childI x.1 x.2.1 x.2.2).1 (childI x.1 x.2.1 x.2.2).2)
theorem g416 : GoodS Tryz.prog N416 s416 := by
  refine good (.cons g366 (.cons g330 (.nil _))) H416 rfl (by kernel_rfl) noL [] (noLoops (by kernel_rfl)) [.v I, .v U, .v I] (by decide) [] _ fun x r hw e => ?_
  obtain ⟨h, n, i⟩ := x
  cases e
  refine (r416 h n i).trans ?_
  show _ = some (ru2 (childI h n i).1 (childI h n i).2)
  unfold childI
  cases bif chkI h n != 0 then true else oddB i <;> cases depI n == h <;> rfl
end Go.AM.Seat
