/- The seat: contracts: leaf.find, Clone, Below. -/
import Derived.Test.YtkalaofppiifcaaSeCv1
set_option linter.unusedVariables false
set_option linter.unusedSimpArgs false
set_option maxRecDepth 100000
namespace Go.AM.Seat
open Go Go.AM Go.Proofs
theorem lok_len {a : Int} {l : List Int} (h : lokB a l = true) : l.length ≤ 1024 ∧ (chkI a 1 != 0) = false ∧ lbadA a l = false := by
  unfold lokB at h
  cases h1 : chkI a 1 != 0 with
  | true => rw [h1] at h; cases h
  | false =>
    rw [h1] at h
    simp only [cond_false] at h
    cases h2 : decide ((l.length : Int) > 1024) with
    | true => rw [h2] at h; cases h
    | false =>
      rw [h2] at h
      have h2 := of_decide_eq_false h2
      cases h3 : lbadA a l with
      | true => rw [h3] at h; cases h
      | false => exact ⟨by omega, rfl, rfl⟩
/-! ### slices.Clone at uint64 -/
theorem r428n (xs : List Int) : run (orc []) noL [] F428 [.one (.sl false U (some true) xs)] [.arr U] = some (.arr true U []) := by kernel_rfl
theorem r428 (xs : List Int) : run (orc []) noL [] F428 [.one (.sl false U (some false) xs)] [.arr U] =
    bif decide ((([] : List Int).length + xs.length) * 8 ≤ 140737488355328) then some (.arr true U ([] ++ xs)) else none := by kernel_rfl
def s428 : Sp := .fn [.v (.sl U)] fun xs => (decide (xs.length ≤ 1000000), .arr true U xs)
theorem ks428 (ws : List WK) (args : List AV) (hl : args.length ≤ F428.ntmps) {r : AV} (h : run (orc []) noL [] F428 args ws = some r) : Good Try.prog N428 args r :=
  good_of mixed tbOk (.nil _) H428 (bd rfl) rfl rfl args hl ⟨F428.ntmps, 0, []⟩ rfl noL (noLoops (by kernel_rfl)) (kretW_spec ws) h
theorem g428 : GoodS Try.prog N428 s428 := by
  refine .fn (callable_of H428 (bd rfl) (by kernel_rfl)) fun xs r hw h => ?_
  have hs : xs.length ≤ 1000000 := of_decide_eq_true (congrArg Prod.fst h)
  obtain rfl : AV.arr true U xs = r := congrArg Prod.snd h
  refine good_nl (fun e => ?_) ?_
  · subst e
    exact ks428 [.arr U] _ (by show 1 ≤ 8; omega) (r428n [])
  · refine ks428 [.arr U] _ (by show 1 ≤ 8; omega) ((r428 xs).trans ?_)
    rw [decide_eq_true (by simp only [List.length_nil, Nat.zero_add]; omega)]
    simp only [cond_true, List.nil_append]
/-! ### leaf.find -/
def Γ369 : Orc := orc [(N400, s400L), (N401, s401), (N402, s402u)]
def findB (a : Int) (l : List Int) (i : Int) : Bool := bif lchkI a l != 0 then true else !((leafI a i).2 == 0)
theorem r369L (a : Int) (l : List Int) (i : Int) : run Γ369 noL [] F369 [.one (.int .i64 a), .one (.sl false U none l), .one (.int .u64 i)] [] =
    bif findB a l i then some (rif 0 false 1) else bif decide (l.length ≤ 1000000) then some (rif (bsPu l i) (foundBu l i) 0) else none := by kernel_rfl
def s369L : Sp := .fn [.v I, .v (.sl U), .v U] fun x => (true, bif findB x.1 x.2.1 x.2.2 then rif 0 false 1 else rif (bsPu x.2.1 x.2.2) (foundBu x.2.1 x.2.2) 0)
theorem lchk_ok {a : Int} {l : List Int} (h : (lchkI a l != 0) = false) : lokB a l = true := by
  unfold lchkI at h
  cases h1 : lokB a l with
  | true => rfl
  | false => rw [h1] at h; cases h
theorem g369L : GoodS Try.prog N369 s369L := by
  refine good (.cons g400L (.cons g401 (.cons g402u (.nil _)))) H369 rfl (by kernel_rfl) noL [] (noLoops (by kernel_rfl)) [.v I, .v (.sl U), .v U] (by decide) [] _ fun x r hw e => ?_
  obtain ⟨a, l, i⟩ := x
  cases e
  refine (r369L a l i).trans ?_
  cases hc : findB a l i with
  | true => rfl
  | false =>
    have h1 : (lchkI a l != 0) = false := by
      unfold findB at hc
      cases h : lchkI a l != 0 with
      | true => rw [h] at hc; cases hc
      | false => rfl
    have := (lok_len (lchk_ok h1)).1
    rw [decide_eq_true (show l.length ≤ 1000000 by omega)]; rfl
/-! ### leaf.Below -/
theorem lok_at {a : Int} {l : List Int} (h : lokB a l = true) (k : Nat) (hk : k < l.length) : ((leafI a l[k]).2 == 0) = true ∧ (∀ (h0 : 0 < k), l[k - 1]'(by omega) < l[k]) := by
  obtain ⟨h1, h2, h3⟩ := lok_len h
  have h4 : lbad a l l k = false := by
    cases hb : lbad a l l k with
    | false => rfl
    | true => have := anyN_iff.2 ⟨k, hk, hb⟩; unfold lbadA at h3; rw [this] at h3; cases h3
  unfold lbad at h4
  have e1 : bsAu l (k : Int) = l[k] := by unfold bsAu; simp [hk]
  rw [e1] at h4
  cases h5 : (leafI a l[k]).2 == 0 with
  | false => rw [h5] at h4; cases h4
  | true =>
    rw [h5] at h4
    refine ⟨rfl, fun h0 => ?_⟩
    have e2 : bsAu l (IntKind.i64.wrap ((k : Int) - 1)) = l[k - 1]'(by omega) := by
      rw [wrap64 (n := (k : Int) - 1) (by omega) (by omega), show ((k : Int) - 1) = ((k - 1 : Nat) : Int) by omega]
      unfold bsAu; simp [show k - 1 < l.length by omega]
    rw [decide_eq_true (show (k : Int) > 0 by omega), e2] at h4
    have h4 := of_decide_eq_false h4
    exact Int.not_le.1 h4
theorem lok_sorted {a : Int} {l : List Int} (h : lokB a l = true) : l.Pairwise (· < ·) := by
  refine List.pairwise_iff_getElem.2 fun i j hi hj hij => ?_
  have key : ∀ (d i : Nat) (hi : i + (d + 1) < l.length), l[i]'(by omega) < l[i + (d + 1)] := by
    intro d
    induction d with
    | zero => intro i hi; exact (lok_at h (i + 1) hi).2 (by omega)
    | succ d ih =>
      intro i hi
      exact Int.lt_trans (ih i (by omega)) ((lok_at h (i + (d + 1 + 1)) hi).2 (by omega))
  have := key (j - i - 1) i (by omega)
  simpa [show i + (j - i - 1 + 1) = j by omega] using this
theorem lok_leaf {a : Int} {l : List Int} (h : lokB a l = true) : ∀ x ∈ l, ((leafI a x).2 == 0) = true := by
  intro x hx
  obtain ⟨k, hk, rfl⟩ := List.getElem_of_mem hx
  exact (lok_at h k hk).1
theorem bsPu_spec {xs : List Int} {t : Int} (hs : xs.Pairwise (· < ·)) : bsPu xs t ≤ xs.length ∧ (∀ k (hk : k < xs.length), k < bsPu xs t → xs[k] < t) ∧ (∀ k (hk : k < xs.length), bsPu xs t ≤ k → t ≤ xs[k]) := by
  obtain ⟨h0, h1, h2⟩ := bsN_specu (t := t) hs (xs.length + 1) 0 xs.length (Nat.zero_le _) (Nat.le_refl _) (by omega) (fun k hk => by omega) (fun k hk hkl => by omega)
  change bsPu xs t ≤ _ at h0
  change ∀ k, k < bsPu xs t → _ at h1
  change ∀ k, bsPu xs t ≤ k → _ at h2
  have ha : ∀ k (h : k < xs.length), bsAu xs k = xs[k] := fun k h => by unfold bsAu; simp [h]
  exact ⟨h0, fun k hk h => by rw [← ha k hk]; exact h1 k h, fun k hk h => by rw [← ha k hk]; exact Int.not_lt.1 (h2 k h hk)⟩
/-- Of a list in order: what lies from a place on, up to another one. -/
theorem cut_filter {xs : List Int} {lo hi : Int} (hs : xs.Pairwise (· < ·)) : ∀ {p q : Nat}, (∀ k (hk : k < xs.length), k < p → xs[k] < lo) → (∀ k (hk : k < xs.length), p ≤ k → lo ≤ xs[k]) →
    (∀ k (hk : k < xs.length), k < q → xs[k] ≤ hi) → (∀ k (hk : k < xs.length), q ≤ k → hi < xs[k]) → (xs.take q).drop p = xs.filter fun x => decide (lo ≤ x) && decide (x ≤ hi) := by
  induction xs with
  | nil => intro p q _ _ _ _; simp
  | cons x xs ih =>
    intro p q h1 h2 h3 h4
    have hs' := (List.pairwise_cons.1 hs)
    have e1 : ∀ p' : Nat, (∀ k (hk : k < xs.length), k < p' → xs[k] < lo) = (∀ k (hk : k < xs.length), k + 1 < p' + 1 → (x :: xs)[k + 1]'(by simp; omega) < lo) := fun p' => by simp
    cases q with
    | zero =>
      rw [List.take_zero, List.drop_nil]
      have : (x :: xs).filter (fun x => decide (lo ≤ x) && decide (x ≤ hi)) = [] := by
        rw [List.filter_eq_nil_iff]
        intro y hy
        obtain ⟨k, hk, rfl⟩ := List.getElem_of_mem hy
        have := h4 k hk (by omega)
        simp only [Bool.and_eq_true, decide_eq_true_eq]; omega
      rw [this]
    | succ q =>
      have hx3 : x ≤ hi := h3 0 (by simp) (by omega)
      have t3 : ∀ k (hk : k < xs.length), k < q → xs[k] ≤ hi := fun k hk h => h3 (k + 1) (by simp; omega) (by omega)
      have t4 : ∀ k (hk : k < xs.length), q ≤ k → hi < xs[k] := fun k hk h => h4 (k + 1) (by simp; omega) (by omega)
      cases p with
      | zero =>
        have hx1 : lo ≤ x := h2 0 (by simp) (by omega)
        have := ih hs'.2 (p := 0) (q := q) (fun k hk h => by omega) (fun k hk h => h2 (k + 1) (by simp; omega) (by omega)) t3 t4
        rw [List.filter_cons, if_pos (by simp only [Bool.and_eq_true, decide_eq_true_eq]; exact ⟨hx1, hx3⟩), ← this]; rfl
      | succ p =>
        have hx1 : x < lo := h1 0 (by simp) (by omega)
        have := ih hs'.2 (p := p) (q := q) (fun k hk h => h1 (k + 1) (by simp; omega) (by omega)) (fun k hk h => h2 (k + 1) (by simp; omega) (by omega)) t3 t4
        rw [List.filter_cons, if_neg (by simp only [Bool.and_eq_true, decide_eq_true_eq]; omega), ← this]; rfl
def Γ414 : Orc := orc [(N368, s368), (N400, s400L), (N402, s402u), (N428, s428)]
def belowB (a : Int) (l : List Int) (n : Int) : Bool := bif (leavesI a n).2 != 0 then true else lchkI a l != 0
def rlu (l : List Int) (e : Int) : AV := .tup [(false, [.sl true U none l]), (false, [.int .i64 e])]
def belP (a : Int) (l : List Int) (n : Int) : Int := bsPu l (leavesI a n).1.1
def belQ (a : Int) (l : List Int) (n : Int) : Int := bsPu l (IntKind.u64.wrap ((leavesI a n).1.2 + 1))
theorem r414 (a : Int) (l : List Int) (n : Int) : run Γ414 noL [] F414 [.one (.int .i64 a), .one (.sl false U none l), .one (.int .u64 n)] [.sl true U, .id] =
    bif belowB a l n then some (rlu [] 1) else bif decide (l.length ≤ 1000000) then bif decide (l.length ≤ 1000000) then
      bif decide (0 ≤ belP a l n) && decide (belP a l n ≤ belQ a l n) && decide (belQ a l n ≤ (l.length : Int)) then
        bif decide (((l.take (belQ a l n).toNat).drop (belP a l n).toNat).length ≤ 1000000) then some (rlu ((l.take (belQ a l n).toNat).drop (belP a l n).toNat) 0) else none
      else none else none else none := by kernel_rfl
/-- The leaves of a set below a node. -/
def belowL (a : Int) (l : List Int) (n : Int) : List Int := l.filter (within (leavesI a n).1)
theorem leaves_nat {h n : Int} (h0 : 0 ≤ n) (hk : okN h.toNat n.toNat = true) : leavesI h n =
    ((((n.toNat * 2 ^ (h.toNat - n.toNat.log2) - 2 ^ h.toNat : Nat) : Int), ((n.toNat * 2 ^ (h.toNat - n.toNat.log2) - 2 ^ h.toNat + 2 ^ (h.toNat - n.toNat.log2) - 1 : Nat) : Int)), 0) := by
  have hc : (chkI h n != 0) = false := by rw [chk_nat h0, hk]; rfl
  obtain ⟨h1, h2, h3⟩ := chk_zero hc
  have h1 := highB_iff.1 h1
  obtain ⟨p1, p2, p3⟩ := okN_pow hk
  have hp := pow32 (h := h.toNat) (by omega)
  have hp1 : 2 ^ (h.toNat + 1) = 2 * 2 ^ h.toNat := by rw [Nat.pow_succ]; omega
  unfold leavesI
  rw [hc, dep_nat h2]
  simp only [cond_false]
  have ed : h - (n.toNat.log2 : Int) = ((h.toNat - n.toNat.log2 : Nat) : Int) := by omega
  rw [ed]
  generalize hD : h.toNat - n.toNat.log2 = d at *
  have hd0 := Nat.two_pow_pos d
  have e1 : shlI n d = ((n.toNat * 2 ^ d : Nat) : Int) := by
    have := shl_nat (a := n.toNat) (k := d) (by omega) (by omega)
    rw [← this]; congr 1; omega
  have e2 : shlI 1 h = ((2 ^ h.toNat : Nat) : Int) := by
    have := shl_nat (a := 1) (k := h.toNat) (by omega) (by omega)
    rw [Nat.one_mul] at this
    rw [← this]; congr 1; omega
  have e3 : shlI 1 d = ((2 ^ d : Nat) : Int) := by
    have hd : 2 ^ d ≤ 2 ^ 32 := pow32 (by omega)
    have := shl_nat (a := 1) (k := d) (by omega) (by omega)
    rw [Nat.one_mul] at this
    exact this
  have hlow : lowI h n d = ((n.toNat * 2 ^ d - 2 ^ h.toNat : Nat) : Int) := by
    unfold lowI
    rw [e1, e2, wrapU (by omega) (by omega)]; omega
  have htop : topI h n d = ((n.toNat * 2 ^ d - 2 ^ h.toNat + 2 ^ d - 1 : Nat) : Int) := by
    unfold topI
    rw [hlow, e3, wrapU (n := _ + _) (by omega) (by omega), wrapU (by omega) (by omega)]; omega
  rw [hlow, htop]
theorem leaves_ok {h n : Int} (h0 : 0 ≤ n) (he : ((leavesI h n).2 != 0) = false) : okN h.toNat n.toNat = true := by
  cases hk : okN h.toNat n.toNat with
  | true => rfl
  | false =>
    unfold leavesI at he
    rw [chk_nat h0, hk] at he
    cases he
theorem leaves_bd {a n : Int} (h0 : 0 ≤ n) (he : ((leavesI a n).2 != 0) = false) : 0 ≤ (leavesI a n).1.1 ∧ (leavesI a n).1.1 ≤ (leavesI a n).1.2 ∧ (leavesI a n).1.2 < 4294967296 := by
  have hk := leaves_ok h0 he
  obtain ⟨p1, p2, p3⟩ := okN_pow hk
  obtain ⟨q1, q2, q3, q4⟩ := okN_iff.1 hk
  have hp := pow32 (h := a.toNat) (by omega)
  have hp1 : 2 ^ (a.toNat + 1) = 2 * 2 ^ a.toNat := by rw [Nat.pow_succ]; omega
  have hd0 := Nat.two_pow_pos (a.toNat - n.toNat.log2)
  rw [leaves_nat h0 hk]
  generalize 2 ^ (a.toNat - n.toNat.log2) = d at *
  refine ⟨Int.natCast_nonneg _, ?_, ?_⟩
  · show ((_ : Nat) : Int) ≤ ((_ : Nat) : Int); omega
  · show ((_ : Nat) : Int) < _; omega
def belowR (a : Int) (l : List Int) (n : Int) : List Int × Int := bif belowB a l n then ([], 1) else (belowL a l n, 0)
def s414 : Sp := .fn [.v I, .v (.sl U), .v U] fun x => (true, rlu (belowR x.1 x.2.1 x.2.2).1 (belowR x.1 x.2.1 x.2.2).2)
theorem g414 : GoodS Try.prog N414 s414 := by
  refine good (.cons g368 (.cons g400L (.cons g402u (.cons g428 (.nil _))))) H414 rfl (by kernel_rfl) noL [] (noLoops (by kernel_rfl)) [.v I, .v (.sl U), .v U] (by decide) [.sl true U, .id] _ fun x r hw e => ?_
  obtain ⟨a, l, n⟩ := x
  cases e
  refine (r414 a l n).trans ?_
  unfold belowR
  cases hc : belowB a l n with
  | true => rfl
  | false =>
    have h1 : ((leavesI a n).2 != 0) = false := by
      unfold belowB at hc
      cases h : (leavesI a n).2 != 0 with
      | true => rw [h] at hc; cases hc
      | false => rfl
    have h2 : lokB a l = true := by
      unfold belowB at hc; rw [h1] at hc; exact lchk_ok hc
    have hl := (lok_len h2).1
    have hs := lok_sorted h2
    have h0 : 0 ≤ n := hw.2.2.1
    obtain ⟨b1, b2, b3⟩ := leaves_bd h0 h1
    obtain ⟨c0, c1, c2⟩ := bsPu_spec (t := (leavesI a n).1.1) hs
    obtain ⟨d0, d1, d2⟩ := bsPu_spec (t := IntKind.u64.wrap ((leavesI a n).1.2 + 1)) hs
    have ew : IntKind.u64.wrap ((leavesI a n).1.2 + 1) = (leavesI a n).1.2 + 1 := wrapU (by omega) (by omega)
    have hpq : bsPu l (leavesI a n).1.1 ≤ bsPu l (IntKind.u64.wrap ((leavesI a n).1.2 + 1)) := by
      rcases Nat.lt_or_ge (bsPu l (IntKind.u64.wrap ((leavesI a n).1.2 + 1))) (bsPu l (leavesI a n).1.1) with h9 | h9
      · have x1 := c1 _ (by omega) h9
        have x2 := d2 _ (show bsPu l (IntKind.u64.wrap ((leavesI a n).1.2 + 1)) < l.length by omega) (Nat.le_refl _)
        have b4 : (leavesI a n).1.2 ≤ IntKind.u64.wrap ((leavesI a n).1.2 + 1) := by rw [ew]; omega
        exact absurd (Int.lt_of_le_of_lt (Int.le_trans (Int.le_trans b2 b4) x2) x1) (Int.lt_irrefl _)
      · exact h9
    have ef : (l.take (belQ a l n).toNat).drop (belP a l n).toNat = belowL a l n := by
      unfold belQ belP belowL
      rw [Int.toNat_natCast, Int.toNat_natCast, cut_filter (lo := (leavesI a n).1.1) (hi := (leavesI a n).1.2) hs c1 c2 (fun k hk h => by have := d1 k hk h; rw [ew] at this; omega) (fun k hk h => by have := d2 k hk h; rw [ew] at this; omega)]
      congr 1
      funext x
      unfold within
      cases decide ((leavesI a n).1.1 ≤ x) <;> rfl
    rw [ef, decide_eq_true (show l.length ≤ 1000000 by omega)]
    have g1 : (decide (0 ≤ belP a l n) && decide (belP a l n ≤ belQ a l n) && decide (belQ a l n ≤ (l.length : Int))) = true := by
      unfold belP belQ
      rw [decide_eq_true (by omega), decide_eq_true (by omega), decide_eq_true (by omega)]; rfl
    have g2 : (belowL a l n).length ≤ 1000000 := Nat.le_trans (List.length_filter_le _ _) (by omega)
    rw [g1, decide_eq_true g2]; rfl
end Go.AM.Seat
