/- The seat: contracts of the definition's functions: powers, nodes, chains. -/
import Derived.Test.YtoeijiackpanoaaSeSides
import Derived.Test.YtoeijiackpanoaaSeFirst
import Derived.Test.YtoeijiackpanoaaPlNode2
set_option linter.unusedVariables false
set_option maxRecDepth 100000
namespace Go.AM.Seat
open Go Go.AM Go.Proofs

/-- Loops that count up, with what holds at each place, the end too. -/
theorem upLoopJ {α : Type} {n : Nat} {F : Nat → α → Int → Option AV} {G : Nat → α → Option AV} {Inv : Nat → α → Prop} (h1 : ∀ fuel a, Inv n a → F (fuel + 1) a n = G n a)
    (h2 : ∀ a (j : Nat), j < n → Inv j a → (∃ a', Inv (j + 1) a' ∧ (∀ fuel, F (fuel + 1) a j = F fuel a' ((j + 1 : Nat) : Int)) ∧ G j a = G (j + 1) a') ∨ (∀ fuel, F (fuel + 1) a j = G j a)) :
    ∀ (m j : Nat) (a : α) (out : AV), j + m = n → Inv j a → G j a = some out → ∃ fuel, F fuel a j = some out := by
  intro m
  induction m with
  | zero =>
    intro j a out hj hi h
    obtain rfl : j = n := by omega
    exact ⟨1, (h1 0 a hi).trans h⟩
  | succ m ih =>
    intro j a out hj hi h
    rcases h2 a j (by omega) hi with ⟨a', g0, g1, g2⟩ | g
    · obtain ⟨fuel, hf⟩ := ih (j + 1) a' out (by omega) g0 (g2 ▸ h)
      exact ⟨fuel + 1, (g1 fuel).trans hf⟩
    · exact ⟨1, (g 0).trans h⟩
/-! ### power -/
abbrev live376 : List (Nat × Dir) := [(3, .keep), (4, .keep), (5, .keep)]
def vs376 (n k i : Int) : List AV := [.one (.int .u64 n), .one (.int .i64 k), .one (.int .i64 i)]
noncomputable abbrev lp376 (Λ : Lam AV) (K : AE → List AV → Option AV) (fuel : Nat) (vs : List AV) : Option AV := loopN (aexec tb (orc []) Λ ⟨11, 0, [(0, live376)]⟩ (loopK F376 0).2 0) 11 0 live376 K fuel vs
theorem step376 (n k i : Int) (Λ : Lam AV) (fuel : Nat) (K : AE → List AV → Option AV) : lp376 Λ K (fuel + 1) (vs376 n k i) =
    bif decide (i < k) then lp376 Λ K fuel (vs376 (IntKind.u64.wrap (2 * n)) k (IntKind.i64.wrap (i + 1))) else K (.exit 0) (vs376 n k i) := by kernel_rfl
def powI (k : Int) : Int := ((2 ^ k.toNat : Nat) : Int)
def Λ376 : Lam AV := fun cur vs K =>
  match cur, vs with
  | 0, [.one (.int .u64 1), .one (.int .i64 k), .one (.int .i64 0)] => bif decide (0 ≤ k) && decide (k ≤ 33) then K (.exit 0) (vs376 (powI k) k k) else none
  | _, _ => none
theorem loop376 : LoopP tb (orc []) Λ376 ⟨11, 0, [(0, live376)]⟩ (loopK F376 0) := by
  intro vs K out e
  have hcur : (loopK F376 0).1 = 0 := by kernel_rfl
  rw [hcur] at e ⊢
  unfold Λ376 at e
  split at e
  · rename_i k _
    cases hc : (decide (0 ≤ k) && decide (k ≤ 33)) with
    | false => rw [hc] at e; cases e
    | true =>
      rw [hc] at e
      simp only [cond_true] at e
      simp only [Bool.and_eq_true, decide_eq_true_eq] at hc
      obtain ⟨N, rfl⟩ := Int.eq_ofNat_of_zero_le hc.1
      refine upLoopJ (α := Int) (n := N) (F := fun fuel n i => lp376 Λ376 K fuel (vs376 n N i))
        (G := fun j _ => K (.exit 0) (vs376 (powI N) N N)) (Inv := fun j n => n = ((2 ^ j : Nat) : Int)) (fun fuel n hi => ?_) (fun n j hj hi => ?_) N 0 1 out (by omega) rfl e
      · rw [step376, nlt_dec, cond_false, hi]; rfl
      · left
        subst hi
        have hp : 2 ^ j ≤ 2 ^ 33 := Nat.pow_le_pow_right (by decide) (by omega)
        have hp0 := Nat.two_pow_pos j
        refine ⟨((2 ^ (j + 1) : Nat) : Int), rfl, fun fuel => ?_, rfl⟩
        rw [step376, lt_dec hj, cond_true, wrap64 (n := (j : Int) + 1) (by omega) (by omega), wrapU (by omega) (by omega), Nat.pow_succ]
        congr 2; omega
  · cases e
theorem r376 (k : Int) : run (orc []) Λ376 [(0, live376)] F376 (encA [.v I] k) [] = bif decide (0 ≤ k) && decide (k ≤ 33) then some (.one (.int .u64 (powI k))) else none := by kernel_rfl
def s376 : Sp := .fn [.v I] fun k => (decide (0 ≤ k) && decide (k ≤ 33), .one (.int .u64 (powI k)))
theorem g376 : GoodS Try.prog N376 s376 := by
  refine good (.nil _) H376 rfl (by kernel_rfl) Λ376 [(0, live376)] (oneLoop (p0 := loopK F376 0) (by kernel_rfl) loop376) [.v I] (by decide) [] _ fun k r hw e => ?_
  have e1 := congrArg Prod.fst e
  have e2 := congrArg Prod.snd e
  simp only at e1 e2
  rw [r376, e1, ← e2]; rfl

/-! ### May, Leaf -/
theorem powI_nat {h : Int} (h0 : 0 ≤ h) : powI (h + 1) = ((2 ^ (h.toNat + 1) : Nat) : Int) := by unfold powI; rw [show (h + 1).toNat = h.toNat + 1 by omega]
def hn1 (h n : Int) : Bool := bif bif decide (h ≥ 1) then decide (h ≤ 32) else false then decide (n ≥ 1) else false
theorem r374 (h n : Int) : run (orc [(N376, s376)]) noL [] F374 (encA [.v I, .v U] (h, n)) [] =
    bif decide (0 ≤ IntKind.i64.wrap (h + 1)) && decide (IntKind.i64.wrap (h + 1) ≤ 33) || !boolBeq (hn1 h n) true then some (.one (.bool (bif hn1 h n then decide (n < powI (IntKind.i64.wrap (h + 1))) else false))) else none := by kernel_rfl
def mayN (h n : Int) : Bool := okN h.toNat n.toNat
theorem hn1_iff {h n : Int} : hn1 h n = true ↔ 1 ≤ h ∧ h ≤ 32 ∧ 1 ≤ n := by
  unfold hn1
  cases h1 : decide (h ≥ 1) with
  | false => have := of_decide_eq_false h1; simp; omega
  | true =>
    cases h2 : decide (h ≤ 32) with
    | false => have := of_decide_eq_false h2; simp; omega
    | true =>
      have := of_decide_eq_true h1; have := of_decide_eq_true h2
      simp; omega
theorem may_guard {h n : Int} : (decide (0 ≤ IntKind.i64.wrap (h + 1)) && decide (IntKind.i64.wrap (h + 1) ≤ 33) || !boolBeq (hn1 h n) true) = true := by
  cases e : hn1 h n with
  | false => cases (decide (0 ≤ IntKind.i64.wrap (h + 1)) && decide (IntKind.i64.wrap (h + 1) ≤ 33)) <;> rfl
  | true =>
    obtain ⟨a, b, _⟩ := hn1_iff.1 e
    rw [wrap64 (by omega) (by omega), decide_eq_true (by omega), decide_eq_true (by omega)]; rfl
theorem may_val {h n : Int} (h0 : 0 ≤ n) : (bif hn1 h n then decide (n < powI (IntKind.i64.wrap (h + 1))) else false) = mayN h n := by
  unfold mayN
  cases e : hn1 h n with
  | false =>
    cases ho : okN h.toNat n.toNat with
    | false => rfl
    | true =>
      obtain ⟨a, b, c, _⟩ := okN_iff.1 ho
      rw [hn1_iff.2 ⟨by omega, by omega, by omega⟩] at e; cases e
  | true =>
    obtain ⟨a, b, c⟩ := hn1_iff.1 e
    rw [wrap64 (by omega) (by omega), powI_nat (by omega)]
    apply Bool.eq_iff_iff.2
    rw [okN_iff]
    simp only [cond_true, decide_eq_true_eq]
    constructor
    · intro hx; exact ⟨by omega, by omega, by omega, by omega⟩
    · rintro ⟨_, _, _, hx⟩; omega
def s374 : Sp := .fn [.v I, .v U] fun x => (true, .one (.bool (mayN x.1 x.2)))
theorem g374 : GoodS Try.prog N374 s374 := by
  refine good (.cons g376 (.nil _)) H374 rfl (by kernel_rfl) noL [] (noLoops (by kernel_rfl)) [.v I, .v U] (by decide) [] _ fun x r hw e => ?_
  obtain ⟨h, n⟩ := x
  cases e
  rw [r374, may_guard, may_val (hasU hw.2).1]; rfl
theorem r344 (h n : Int) : run (orc [(N376, s376)]) noL [] F344 (encA [.v I, .v U] (h, n)) [] =
    bif (bif decide (h < 1) then true else decide (h > 32)) then some (re2 0 1) else bif decide (0 ≤ h) && decide (h ≤ 33) then
      bif decide (n ≥ powI h) then some (re2 0 4) else bif decide (0 ≤ h) && decide (h ≤ 33) then some (re2 (IntKind.u64.wrap (powI h + n)) 0) else none else none := by kernel_rfl
theorem leaf_run {h n : Int} (h0 : 0 ≤ n) (h1 : n.toNat < 2 ^ 64) : (bif (bif decide (h < 1) then true else decide (h > 32)) then some (re2 0 1) else bif decide (0 ≤ h) && decide (h ≤ 33) then
      bif decide (n ≥ powI h) then some (re2 0 4) else bif decide (0 ≤ h) && decide (h ≤ 33) then some (re2 (IntKind.u64.wrap (powI h + n)) 0) else none else none) = some (re2 (leafI h n).1 (leafI h n).2) := by
  rw [leaf_nat h0 h1]
  unfold leafV
  by_cases hh : 1 ≤ h ∧ h ≤ 32
  · rw [decide_eq_false (show ¬ h < 1 by omega), decide_eq_false (show ¬ h > 32 by omega), decide_eq_true (show 0 ≤ h by omega), decide_eq_true (show h ≤ 33 by omega),
      decide_eq_true (show 1 ≤ h.toNat by omega), decide_eq_true (show h.toNat ≤ 32 by omega)]
    have hp := pow32 (h := h.toNat) (by omega)
    by_cases hn : n.toNat < 2 ^ h.toNat
    · have : ¬ n ≥ powI h := by unfold powI; omega
      rw [decide_eq_false this, decide_eq_true hn]
      have e : IntKind.u64.wrap (powI h + n) = ((leafN h.toNat n.toNat : Nat) : Int) := by
        unfold powI leafN
        rw [wrapU (by omega) (by omega)]; omega
      rw [e]; rfl
    · have : n ≥ powI h := by unfold powI; omega
      rw [decide_eq_true this, decide_eq_false hn]; rfl
  · have e1 : (decide (1 ≤ h.toNat) && decide (h.toNat ≤ 32)) = false := by
      cases e : decide (1 ≤ h.toNat) with
      | false => rfl
      | true => have := of_decide_eq_true e; exact decide_eq_false (by omega)
    have e2 : (bif decide (h < 1) then true else decide (h > 32)) = true := by
      cases e : decide (h < 1) with
      | true => rfl
      | false => have := of_decide_eq_false e; exact decide_eq_true (by omega)
    rw [e1, e2]; rfl
def s344 : Sp := .fn [.v I, .v U] fun x => (true, re2 (leafI x.1 x.2).1 (leafI x.1 x.2).2)
theorem g344 : GoodS Try.prog N344 s344 := by
  refine good (.cons g376 (.nil _)) H344 rfl (by kernel_rfl) noL [] (noLoops (by kernel_rfl)) [.v I, .v U] (by decide) [] _ fun x r hw e => ?_
  obtain ⟨h, n⟩ := x
  cases e
  obtain ⟨c0, c1, _⟩ := hasU hw.2
  exact (r344 h n).trans (leaf_run c0 c1)

/-! ### Chain -/
def chainN (n : Nat) : List Int := (List.range (n.log2 + 1)).map fun d => ((n / 2 ^ (n.log2 - d) : Nat) : Int)
theorem chainN_one : chainN 1 = [1] := by decide
theorem chainN_half {n : Nat} (h : 2 ≤ n) : chainN n = chainN (n / 2) ++ [(n : Int)] := by
  have hl : 1 ≤ n.log2 := by
    rcases Nat.lt_or_ge n.log2 1 with h1 | h1
    · have := (Nat.log2_lt (show n ≠ 0 by omega)).1 h1; omega
    · exact h1
  have e1 : (n / 2).log2 = n.log2 - 1 := by
    have := log2_div (n := n) (k := 1) (by omega) hl
    rwa [Nat.pow_one] at this
  unfold chainN
  rw [e1, show n.log2 - 1 + 1 = n.log2 by omega, List.range_succ, List.map_append]
  congr 1
  · apply List.map_congr_left
    intro d hd
    have hd := List.mem_range.1 hd
    congr 1
    rw [show n.log2 - d = 1 + (n.log2 - 1 - d) by omega, ← div_div_pow, Nat.pow_one]
  · simp
theorem chainN_len (n : Nat) : (chainN n).length = n.log2 + 1 := by unfold chainN; simp
def s370a (N : Int) : Sp := .fn [.v U] fun n => (decide (1 ≤ n) && decide (n < N), .arr true U (chainN n.toNat))
def s370 : Sp := .fn [.v U] fun n => (decide (1 ≤ n), .one (.sl true U none (chainN n.toNat)))
def chainR (mk : List Int → AV) (N n : Int) : Option AV := bif n == 1 then some (mk [1]) else bif decide (1 ≤ IntKind.u64.wrap (n.tdiv 2)) && decide (IntKind.u64.wrap (n.tdiv 2) < N) then
    bif decide (((chainN (IntKind.u64.wrap (n.tdiv 2)).toNat).length + 1) * 8 ≤ 140737488355328) then some (mk (chainN (IntKind.u64.wrap (n.tdiv 2)).toNat ++ [n])) else none else none
theorem r370a (N n : Int) : run (orc [(N370, s370a N)]) noL [] F370 (encA [.v U] n) [.arr U] = chainR (fun l => .arr true U l) N n := by kernel_rfl
theorem r370 (N n : Int) : run (orc [(N370, s370a N)]) noL [] F370 (encA [.v U] n) [.sl true U] = chainR (fun l => .one (.sl true U none l)) N n := by kernel_rfl
theorem chainR_ok {mk : List Int → AV} {N n : Int} (h1 : 1 ≤ n) (h2 : n < N + 1) (h3 : n.toNat < 2 ^ 64) : chainR mk N n = some (mk (chainN n.toNat)) := by
  unfold chainR
  by_cases e : n = 1
  · subst e; rfl
  · rw [show (n == 1) = false by simpa using e]
    have e1 : n.tdiv 2 = ((n.toNat / 2 : Nat) : Int) := by
      rw [Int.tdiv_eq_ediv_of_nonneg (by omega)]; omega
    have e2 : IntKind.u64.wrap (n.tdiv 2) = ((n.toNat / 2 : Nat) : Int) := by rw [e1, wrapU (by omega) (by omega)]
    have hl : (chainN (n.toNat / 2)).length ≤ 64 := by
      rw [chainN_len]
      have := (Nat.log2_lt (show n.toNat / 2 ≠ 0 by omega) (k := 63)).2 (by omega)
      omega
    rw [e2, Int.toNat_natCast, decide_eq_true (by omega), decide_eq_true (by omega), decide_eq_true (by omega), chainN_half (show 2 ≤ n.toNat by omega)]
    have e3 : ((n.toNat : Nat) : Int) = n := by omega
    rw [e3]; rfl
theorem g370a : ∀ N : Nat, GoodS Try.prog N370 (s370a (N : Int))
  | 0 => by
    refine good (.nil _) H370 rfl (by kernel_rfl) noL [] (noLoops (by kernel_rfl)) [.v U] (by decide) [.arr U] _ fun n r hw e => ?_
    have e1 := congrArg Prod.fst e
    simp only [Bool.and_eq_true, decide_eq_true_eq] at e1
    have a := e1.1
    have b := e1.2
    exact absurd (Int.lt_of_le_of_lt a b) (by decide)
  | N + 1 => by
    refine good (.cons (g370a N) (.nil _)) H370 rfl (by kernel_rfl) noL [] (noLoops (by kernel_rfl)) [.v U] (by decide) [.arr U] _ fun n r hw e => ?_
    have e1 := congrArg Prod.fst e
    have e2 := congrArg Prod.snd e
    simp only [Bool.and_eq_true, decide_eq_true_eq] at e1 e2
    rw [r370a, chainR_ok e1.1 (by simpa using e1.2) (hasU hw).2.1, ← e2]
theorem natLt (n : Int) : decide (n < ((n.toNat : Nat) : Int) + 1) = true := decide_eq_true (by omega)
theorem g370 : GoodS Try.prog N370 s370 := by
  refine .fn (callable_of H370 (bd rfl) (by kernel_rfl)) fun n r hw e => ?_
  have g : GoodS Try.prog N370 (.fn [.v U] fun x => (decide (1 ≤ x) && decide (x < ((n.toNat : Nat) : Int) + 1), .one (.sl true U none (chainN x.toNat)))) := by
    refine good (.cons (g370a n.toNat) (.nil _)) H370 rfl (by kernel_rfl) noL [] (noLoops (by kernel_rfl)) [.v U] (by decide) [.sl true U] _ fun n' r' hw' e' => ?_
    have e1 := congrArg Prod.fst e'
    have e2 := congrArg Prod.snd e'
    simp only [Bool.and_eq_true, decide_eq_true_eq] at e1 e2
    rw [r370, chainR_ok e1.1 e1.2 (hasU hw').2.1, ← e2]
  have e1 := congrArg Prod.fst e
  have e2 := congrArg Prod.snd e
  simp only at e2
  refine g.2.1 (encA [.v U] n) r ?_
  have hlt : decide (n < ((n.toNat : Nat) : Int) + 1) = true := natLt n
  show some (decide (1 ≤ n) && decide (n < ((n.toNat : Nat) : Int) + 1), (AV.one (.sl true U none (chainN n.toNat)))) = some (true, r)
  rw [hlt, show decide (1 ≤ n) = true from e1, ← e2]; rfl

/-! ### Is, depth, Other -/
theorem chain_any {a b : Nat} (hb : b ≠ 0) : (chainN b).any (fun x => x == (a : Int)) = abv a b := by
  apply Bool.eq_iff_iff.2
  rw [List.any_eq_true, abv_iff]
  unfold chainN
  constructor
  · rintro ⟨x, hx, he⟩
    obtain ⟨d, hd, rfl⟩ := List.mem_map.1 hx
    have hd := List.mem_range.1 hd
    have he : b / 2 ^ (b.log2 - d) = a := by have := eq_of_beq he; omega
    have hl := log2_div (n := b) (k := b.log2 - d) hb (by omega)
    rw [he] at hl
    exact ⟨by omega, by rw [show b.log2 - a.log2 = b.log2 - d by omega]; exact he⟩
  · rintro ⟨h1, h2⟩
    exact ⟨_, List.mem_map.2 ⟨a.log2, List.mem_range.2 (by omega), rfl⟩, by rw [h2]; simp⟩
theorem allK_any {X E : Option AV} {p : Int → Bool} (l : List Int) : ∀ (m j : Nat), j + m = l.length → allK (fun _ => X) E (fun j => p (iAt l j)) m j = bif (l.drop j).any p then X else E := by
  intro m
  induction m with
  | zero => intro j hj; rw [List.drop_of_length_le (by omega)]; rfl
  | succ m ih =>
    intro j hj
    have h1 : j < l.length := by omega
    rw [allK, ih (j + 1) (by omega), List.drop_eq_getElem_cons h1, List.any_cons]
    have e1 : iAt l j = l[j] := by simp [iAt, h1]
    rw [e1]
    cases p l[j] <;> rfl
abbrev live337 : List (Nat × Dir) := [(0, .keep), (4, .keep), (8, .keep), (9, .keep), (10, .keep)]
def vs337 (a : Int) (r : Bool) (l : List Int) (n i : Int) : List AV := [.one (.int .u64 a), .one (.bool r), .one (.sl true U none l), .one (.int .i64 n), .one (.int .i64 i)]
noncomputable abbrev lp337 (Λ : Lam AV) (K : AE → List AV → Option AV) (fuel : Nat) (vs : List AV) : Option AV := loopN (aexec tb (orc [(N370, s370)]) Λ ⟨18, 0, [(0, live337)]⟩ (loopK F337 0).2 0) 18 0 live337 K fuel vs
theorem step337 (a : Int) (r : Bool) (l : List Int) (n i : Int) (Λ : Lam AV) (fuel : Nat) (K : AE → List AV → Option AV) : lp337 Λ K (fuel + 1) (vs337 a r l n i) =
    bif decide (i < n) then bif inB i l.length then bif iAt l i == a then K .ret (vs337 a true l n i) else lp337 Λ K fuel (vs337 a r l n (IntKind.i64.wrap (i + 1))) else none else K (.exit 0) (vs337 a r l n i) := by kernel_rfl
def Λ337 : Lam AV := fun cur vs K =>
  match cur, vs with
  | 0, [.one (.int .u64 a), .one (.bool r), .one (.sl true (.int .u64) none l), .one (.int .i64 n), .one (.int .i64 0)] =>
    bif decide (n = l.length) && decide (n ≤ 9223372036854775807) then allK (fun j => K .ret (vs337 a true l n j)) (K (.exit 0) (vs337 a r l n n)) (fun j => iAt l j == a) n.toNat 0 else none
  | _, _ => none
theorem loop337 : LoopP tb (orc [(N370, s370)]) Λ337 ⟨18, 0, [(0, live337)]⟩ (loopK F337 0) := by
  intro vs K out e
  have hcur : (loopK F337 0).1 = 0 := by kernel_rfl
  rw [hcur] at e ⊢
  unfold Λ337 at e
  split at e
  · rename_i a r l n _
    cases hc : (decide (n = l.length) && decide (n ≤ 9223372036854775807)) with
    | false => rw [hc] at e; cases e
    | true =>
      rw [hc] at e
      simp only [cond_true] at e
      simp only [Bool.and_eq_true, decide_eq_true_eq] at hc
      obtain ⟨rfl, hmax⟩ := hc
      refine upLoop (α := Unit) (n := l.length) (F := fun fuel _ j => lp337 Λ337 K fuel (vs337 a r l l.length j))
        (G := fun j _ => allK (fun j => K .ret (vs337 a true l l.length j)) (K (.exit 0) (vs337 a r l l.length l.length)) (fun j => iAt l j == a) (l.length - j) j)
        (fun fuel _ => ?_) (fun _ j hj => ?_) l.length 0 () out (by omega) e
      · simp only [step337, nlt_dec, cond_false, Nat.sub_self, allK]
      · have hm : l.length - j = (l.length - (j + 1)) + 1 := by omega
        cases hx : iAt l j == a with
        | true => right; intro fuel; simp only [step337, lt_dec hj, inB_lt hj, hx, cond_true, hm, allK]
        | false =>
          left; refine ⟨(), fun fuel => ?_, ?_⟩
          · simp only [step337, lt_dec hj, inB_lt hj, hx, cond_true, cond_false]
            rw [wrap64 (by omega) (by omega)]; rfl
          · simp only [hm, allK, hx, cond_false]
  · cases e
theorem r337 (a b : Int) : run (orc [(N370, s370)]) Λ337 [(0, live337)] F337 (encA [.v U, .v U] (a, b)) [] =
    bif decide (1 ≤ b) then bif decide (((chainN b.toNat).length : Int) = (chainN b.toNat).length) && decide (((chainN b.toNat).length : Int) ≤ 9223372036854775807) then
      allK (fun _ => oB true) (oB false) (fun j => iAt (chainN b.toNat) j == a) ((chainN b.toNat).length : Int).toNat 0 else none else none := by kernel_rfl
def isI (a b : Int) : Bool := abv a.toNat b.toNat
def s337 : Sp := .fn [.v U, .v U] fun x => (decide (1 ≤ x.2), .one (.bool (isI x.1 x.2)))
theorem chain_small {n : Nat} (h : n < 2 ^ 64) (h0 : n ≠ 0) : (chainN n).length ≤ 64 := by
  rw [chainN_len]
  have := (Nat.log2_lt h0).2 h
  omega
theorem is_run {a b : Int} (a0 : 0 ≤ a) (h1 : decide (1 ≤ b) = true) (b1 : b.toNat < 2 ^ 64) : (bif decide (1 ≤ b) then bif decide (((chainN b.toNat).length : Int) = (chainN b.toNat).length) && decide (((chainN b.toNat).length : Int) ≤ 9223372036854775807) then
      allK (fun _ => oB true) (oB false) (fun j => iAt (chainN b.toNat) j == a) ((chainN b.toNat).length : Int).toNat 0 else none else none) = oB (isI a b) := by
  have hb := of_decide_eq_true h1
  have hl := chain_small b1 (by omega)
  rw [h1, lenMax (l := chainN b.toNat) (by omega), Int.toNat_natCast]
  simp only [cond_true]
  rw [allK_any (p := fun x => x == a) (chainN b.toNat) _ _ (by omega), List.drop_zero]
  have := chain_any (a := a.toNat) (b := b.toNat) (by omega)
  rw [show ((a.toNat : Nat) : Int) = a by omega] at this
  rw [this]
  unfold isI
  cases abv a.toNat b.toNat <;> rfl
theorem g337 : GoodS Try.prog N337 s337 := by
  refine good (.cons g370 (.nil _)) H337 rfl (by kernel_rfl) Λ337 [(0, live337)] (oneLoop (p0 := loopK F337 0) (by kernel_rfl) loop337) [.v U, .v U] (by decide) [] _ fun x r hw e => ?_
  obtain ⟨a, b⟩ := x
  have e1 := congrArg Prod.fst e
  have e2 := congrArg Prod.snd e
  simp only at e2
  refine (r337 a b).trans ((is_run (hasU hw.1).1 e1 (hasU hw.2).2.1).trans ?_)
  rw [← e2]; rfl
theorem r404 (n : Int) : run (orc [(N370, s370)]) noL [] F404 (encA [.v U] n) [] = bif decide (1 ≤ n) then some (.one (.int .i64 (IntKind.i64.wrap (((chainN n.toNat).length : Int) - 1)))) else none := by kernel_rfl
def s404 : Sp := .fn [.v U] fun n => (decide (1 ≤ n), .one (.int .i64 (depI n)))
theorem dep_run {n : Int} (h1 : decide (1 ≤ n) = true) (b1 : n.toNat < 2 ^ 64) : IntKind.i64.wrap (((chainN n.toNat).length : Int) - 1) = depI n := by
  have hb := of_decide_eq_true h1
  have hl := chain_small b1 (by omega)
  rw [wrap64 (by omega) (by omega), chainN_len, dep_nat hb]; omega
theorem g404 : GoodS Try.prog N404 s404 := by
  refine good (.cons g370 (.nil _)) H404 rfl (by kernel_rfl) noL [] (noLoops (by kernel_rfl)) [.v U] (by decide) [] _ fun n r hw e => ?_
  have e1 := congrArg Prod.fst e
  have e2 := congrArg Prod.snd e
  simp only at e2
  refine (r404 n).trans ?_
  rw [show decide (1 ≤ n) = true from e1, dep_run e1 (hasU hw).2.1, ← e2]; rfl
def othI (h n : Int) : Int × Int := bif !mayN h n then (0, 1) else bif n == 1 then (0, 4) else (xorI n 1, 0)
theorem r371 (h n : Int) : run (orc [(N374, s374)]) noL [] F371 (encA [.v I, .v U] (h, n)) [] = bif !mayN h n then some (re2 0 1) else bif n == 1 then some (re2 0 4) else bif n.tmod 2 == 0 then some (re2 (IntKind.u64.wrap (n + 1)) 0) else some (re2 (IntKind.u64.wrap (n - 1)) 0) := by kernel_rfl
theorem xor_one_eq {n : Nat} : n ^^^ 1 = if n % 2 = 0 then n + 1 else n - 1 := by
  have h1 := (xor_one n).1
  have h2 : (n ^^^ 1) % 2 = (n % 2 + 1) % 2 := by
    have := @Nat.xor_mod_two_eq_one n 1
    rcases Nat.mod_two_eq_zero_or_one n with h | h
    · have := this.2 (fun hx => by have := hx.2 rfl; omega)
      omega
    · have : ¬ (n ^^^ 1) % 2 = 1 := fun hx => (this.1 hx) ⟨fun _ => rfl, fun _ => h⟩
      omega
  split <;> omega
theorem xor_nat' {a : Nat} (ha : a < 2 ^ 64) : xorI a 1 = ((a ^^^ 1 : Nat) : Int) := by
  unfold xorI
  have e1 : (BitVec.ofInt 64 (a : Int)).toNat = a := by rw [BitVec.toNat_ofInt]; omega
  have e2 : (BitVec.ofInt 64 (1 : Int)).toNat = 1 := by decide
  rw [BitVec.toNat_xor, e1, e2, wrapU]
  · omega
  · have := Nat.xor_lt_two_pow ha (show 1 < 2 ^ 64 by decide); omega
def s371 : Sp := .fn [.v I, .v U] fun x => (true, re2 (othI x.1 x.2).1 (othI x.1 x.2).2)
theorem two_le {n : Int} (h1 : 1 ≤ n.toNat) (h : (n == 1) = false) : 2 ≤ n := by 
  have : n ≠ 1 := by simpa using h
  omega
theorem oth_run {n : Int} (h0 : 2 ≤ n) (h1 : n.toNat < 2 ^ 64) : (bif n.tmod 2 == 0 then some (re2 (IntKind.u64.wrap (n + 1)) 0) else some (re2 (IntKind.u64.wrap (n - 1)) 0)) = some (re2 (xorI n 1) 0) := by
  obtain ⟨m, rfl⟩ := Int.eq_ofNat_of_zero_le (show 0 ≤ n by omega)
  rw [Int.toNat_natCast] at h1
  rw [xor_nat' h1, xor_one_eq]
  have e : (m : Int).tmod 2 = ((m % 2 : Nat) : Int) := by rw [Int.tmod_eq_emod_of_nonneg (by omega)]; omega
  rw [e]
  by_cases hm : m % 2 = 0
  · rw [if_pos hm, hm, wrapU (by omega) (by omega)]; rfl
  · rw [if_neg hm, show (((m % 2 : Nat) : Int) == 0) = false by simp; omega, wrapU (n := (m : Int) - 1) (by omega) (by omega), show ((m - 1 : Nat) : Int) = (m : Int) - 1 by omega]; rfl
theorem g371 : GoodS Try.prog N371 s371 := by
  refine good (.cons g374 (.nil _)) H371 rfl (by kernel_rfl) noL [] (noLoops (by kernel_rfl)) [.v I, .v U] (by decide) [] _ fun x r hw e => ?_
  obtain ⟨h, n⟩ := x
  cases e
  refine (r371 h n).trans ?_
  show _ = some (re2 (othI h n).1 (othI h n).2)
  unfold othI
  cases hm : mayN h n with
  | false => rfl
  | true =>
    cases h1 : n == 1 with
    | true => rfl
    | false => exact oth_run (two_le (okN_iff.1 hm).2.2.1 h1) (hasU hw.2).2.1
--CUT

theorem eq0_nat {n : Int} (h : 0 ≤ n) : (n == 0) = (n.toNat == 0) := by apply Bool.eq_iff_iff.2; simp; omega
theorem ne0_nat {n : Int} (h : 0 ≤ n) : (n != 0) = !(n.toNat == 0) := by unfold bne; rw [eq0_nat h]
theorem one_le {n : Int} (h : n.toNat ≠ 0) : decide (1 ≤ n) = true := decide_eq_true (by omega)
theorem eq_nat {a b : Int} (ha : 0 ≤ a) (hb : 0 ≤ b) : (b == a) = (a.toNat == b.toNat) := by apply Bool.eq_iff_iff.2; simp; omega
/-! ### r08.Check -/
def c45 (h : Int) (s : Subset.D) : Bool := bif !mayN h s.2 then true else s.2 == s.1
def gd45 (h : Int) (s : Subset.D) : Bool := decide (1 ≤ s.2) || !(boolBeq (s.2 != 0) true && boolBeq (c45 h s) false)
theorem r345 (h : Int) (s : Subset.D) : run (orc [(N374, s374), (N337, s337)]) noL [] F345 (encA [.v I, .v Subset] (h, s)) [] =
    bif !mayN h s.1 then some (.one (.int .i64 1)) else bif gd45 h s then
      bif (bif s.2 != 0 then bif c45 h s then true else !isI s.1 s.2 else false) then some (.one (.int .i64 1)) else some (.one (.int .i64 0)) else none := by kernel_rfl
theorem check_run {h : Int} {s : Subset.D} (h1 : IntKind.u64.has s.1) (h2 : IntKind.u64.has s.2) : (bif !mayN h s.1 then some (AV.one (.int .i64 1)) else bif gd45 h s then
      bif (bif s.2 != 0 then bif c45 h s then true else !isI s.1 s.2 else false) then some (.one (.int .i64 1)) else some (.one (.int .i64 0)) else none) = some (.one (.int .i64 (subE h s))) := by
  rw [subE_nat h1 h2]
  obtain ⟨b0, b1, b2⟩ := hasU h2
  unfold okS gd45 c45 mayN isI
  have e0 : (s.2 != 0) = !(s.2.toNat == 0) := ne0_nat b0
  cases h3 : okN h.toNat s.1.toNat with
  | false => rfl
  | true =>
    rw [e0]
    cases h4 : s.2.toNat == 0 with
    | true =>
      simp only [Bool.not_true, cond_false, boolBeq, cond_true, Bool.false_and, Bool.not_false, Bool.or_true, Bool.true_or, Bool.and_self]
    | false =>
      have h4 : s.2.toNat ≠ 0 := by simpa using h4
      rw [one_le h4]
      have e1 : (s.2 == s.1) = (s.1.toNat == s.2.toNat) := by
        exact eq_nat (hasU h1).1 b0
      rw [e1]
      simp only [Bool.not_true, Bool.not_false, cond_false, cond_true, Bool.true_or, Bool.false_or, Bool.true_and]
      unfold bne
      cases okN h.toNat s.2.toNat <;> cases s.1.toNat == s.2.toNat <;> cases abv s.1.toNat s.2.toNat <;> rfl
def s345 : Sp := .fn [.v I, .v Subset] fun x => (true, .one (.int .i64 (subE x.1 x.2)))
theorem g345 : GoodS Try.prog N345 s345 := by
  refine good (.cons g374 (.cons g337 (.nil _))) H345 rfl (by kernel_rfl) noL [] (noLoops (by kernel_rfl)) [.v I, .v Subset] (by decide) [] _ fun x r hw e => ?_
  obtain ⟨h, s⟩ := x
  cases e
  exact (r345 h s).trans (check_run hw.2.1 hw.2.2)

/-! ### r08.Has -/
def g36 (s : Subset.D) (v : Int) : Bool := decide (1 ≤ v) || !(boolBeq (isI s.1 v) true && boolBeq (s.2 == 0) false)
theorem r336 (h i : Int) (s : Subset.D) : run (orc [(N344, s344), (N345, s345), (N337, s337)]) noL [] F336 (encA [.v I, .v Subset, .v U] (h, s, i)) [] =
    bif (bif subE h s != 0 then true else (leafI h i).2 != 0) then some (rb2 false 1) else bif decide (1 ≤ (leafI h i).1) then bif g36 s (leafI h i).1 then
      some (rb2 (bif isI s.1 (leafI h i).1 then bif s.2 == 0 then true else !isI s.2 (leafI h i).1 else false) 0) else none else none := by kernel_rfl
theorem leaf_val {h i : Int} (c0 : 0 ≤ i) (c1 : i.toNat < 2 ^ 64) (hl : leafOk h.toNat i.toNat = true) : (leafI h i).1 = ((leafN h.toNat i.toNat : Nat) : Int) := by
  obtain ⟨l1, l2, l3⟩ := leafOk_iff.1 hl
  rw [leaf_nat c0 c1]; unfold leafV
  rw [decide_eq_true l1, decide_eq_true l2, decide_eq_true l3]; rfl
theorem leaf_ne {h i : Int} (c0 : 0 ≤ i) (c1 : i.toNat < 2 ^ 64) : ((leafI h i).2 != 0) = !leafOk h.toNat i.toNat := by unfold bne; rw [leaf_err c0 c1]
theorem hasr_run {h i : Int} {s : Subset.D} (h1 : IntKind.u64.has s.1) (h2 : IntKind.u64.has s.2) (hi : IntKind.u64.has i) : (bif (bif subE h s != 0 then true else (leafI h i).2 != 0) then some (rb2 false 1) else bif decide (1 ≤ (leafI h i).1) then bif g36 s (leafI h i).1 then
      some (rb2 (bif isI s.1 (leafI h i).1 then bif s.2 == 0 then true else !isI s.2 (leafI h i).1 else false) 0) else none else none) = some (rb2 (hasI h s i).1 (hasI h s i).2) := by
  obtain ⟨c0, c1, c2⟩ := hasU hi
  rw [has_nat h1 h2 hi, subE_ne h1 h2, leaf_ne c0 c1]
  cases hk : okS h.toNat s.1.toNat s.2.toNat with
  | false => rfl
  | true =>
    cases hl : leafOk h.toNat i.toNat with
    | false => rfl
    | true =>
      rw [leaf_val c0 c1 hl]
      have hp := leafN_ne (h := h.toNat) (i := i.toNat)
      unfold g36 isI hasN
      rw [decide_eq_true (show (1 : Int) ≤ ((leafN h.toNat i.toNat : Nat) : Int) by omega), Int.toNat_natCast]
      obtain ⟨b0, b1, b2⟩ := hasU h2
      have e0 : (s.2 == 0) = (s.2.toNat == 0) := eq0_nat b0
      rw [e0]
      simp only [Bool.not_true, cond_false, cond_true, Bool.true_or, Bool.and_self]
      cases abv s.1.toNat (leafN h.toNat i.toNat) <;> cases s.2.toNat == 0 <;> cases abv s.2.toNat (leafN h.toNat i.toNat) <;> rfl
theorem g336 : GoodS Try.prog N336 s312 := by
  refine good (.cons g344 (.cons g345 (.cons g337 (.nil _)))) H336 rfl (by kernel_rfl) noL [] (noLoops (by kernel_rfl)) [.v I, .v Subset, .v U] (by decide) [] _ fun x r hw e => ?_
  obtain ⟨h, s, i⟩ := x
  cases e
  exact (r336 h i s).trans (hasr_run hw.2.1.1 hw.2.1.2 hw.2.2)

/-! ### r08.Step, special -/
abbrev live424 : List (Nat × Dir) := [(0, .keep), (4, .keep)]
def Λ399' : Lam AV := fun cur vs K =>
  match cur, vs with
  | 0, [.one (.int .i64 h), .one (.int .i64 1)] => stepK h fun n => K (.exit 0) [.one (.int .i64 h), .one (.int .i64 n)]
  | _, _ => none
theorem le32 {h : Int} (hd : decide (h > 32) = false) : h ≤ 32 := by have := of_decide_eq_false hd; omega
theorem stepN_ne (h : Int) : stepN h ≠ 0 := by have := stepN_pos h; omega
theorem loop424 : LoopP tb (orc []) Λ399' ⟨19, 0, [(0, live424)]⟩ (loopK F424 0) := by
  intro vs K out h
  have hcur : (loopK F424 0).1 = 0 := by kernel_rfl
  rw [hcur] at h ⊢
  unfold Λ399' at h
  split at h
  · rename_i x _
    refine ⟨6, ?_⟩
    have e : loopN (aexec tb (orc []) Λ399' ⟨19, 0, [(0, live424)]⟩ (loopK F424 0).2 0) 19 0 live424 K 6 [.one (.int .i64 x), .one (.int .i64 1)] =
      stepK x fun n => K (.exit 0) [.one (.int .i64 x), .one (.int .i64 n)] := by kernel_rfl
    exact e.trans h
  · cases h
def stepV (h : Int) : Int × Int := bif (bif decide (h < 1) then true else decide (h > 32)) then (0, 1) else (stepN h, 0)
theorem r424 (h : Int) : run (orc []) Λ399' [(0, live424)] F424 (encA [.v I] h) [] = bif (bif decide (h < 1) then true else decide (h > 32)) then some (ri2 0 1) else stepK h fun n => some (ri2 n 0) := by kernel_rfl
def s424 : Sp := .fn [.v I] fun h => (true, ri2 (stepV h).1 (stepV h).2)
theorem g424 : GoodS Try.prog N424 s424 := by
  refine good (.nil _) H424 rfl (by kernel_rfl) Λ399' [(0, live424)] (oneLoop (p0 := loopK F424 0) (by kernel_rfl) loop424) [.v I] (by decide) [] _ fun h r hw e => ?_
  cases e
  rw [r424]; unfold stepV
  cases hc : decide (h < 1) with
  | true => rfl
  | false =>
    cases hd : decide (h > 32) with
    | true => rfl
    | false =>
      show stepK h (fun n => some (ri2 n 0)) = some (ri2 (stepN h) 0)
      exact stepK_eq (le32 hd) _
theorem r403 (h d : Int) : run (orc [(N424, s424)]) noL [] F403 (encA [.v I, .v I] (h, d)) [] = bif !decide ((stepV h).1 = 0) then some (.one (.bool (bif d.tmod (stepV h).1 == 0 then true else d == h))) else none := by kernel_rfl
def s403 : Sp := .fn [.v I, .v I] fun x => (highB x.1, .one (.bool (spB x.2 (stepN x.1) x.1)))
theorem stepV_high {h : Int} (e : highB h = true) : stepV h = (stepN h, 0) := by
  have := highB_iff.1 e
  unfold stepV
  rw [decide_eq_false (show ¬ h < 1 by omega), decide_eq_false (show ¬ h > 32 by omega)]; rfl
theorem g403 : GoodS Try.prog N403 s403 := by
  refine good (.cons g424 (.nil _)) H403 rfl (by kernel_rfl) noL [] (noLoops (by kernel_rfl)) [.v I, .v I] (by decide) [] _ fun x r hw e => ?_
  obtain ⟨h, d⟩ := x
  have e1 := congrArg Prod.fst e
  have e2 := congrArg Prod.snd e
  simp only at e1 e2
  refine (r403 h d).trans ?_
  rw [stepV_high e1, ← e2, decide_eq_false (stepN_ne h)]; rfl

/-! ### r08.next -/
abbrev live405 : List (Nat × Dir) := [(0, .keep), (1, .keep)]
def vs405 (h d : Int) : List AV := [.one (.int .i64 h), .one (.int .i64 d)]
noncomputable abbrev lp405 (Λ : Lam AV) (K : AE → List AV → Option AV) (fuel : Nat) (vs : List AV) : Option AV := loopN (aexec tb (orc [(N403, s403)]) Λ ⟨14, 0, [(0, live405)]⟩ (loopK F405 0).2 0) 14 0 live405 K fuel vs
theorem step405 (h d : Int) (Λ : Lam AV) (fuel : Nat) (K : AE → List AV → Option AV) : lp405 Λ K (fuel + 1) (vs405 h d) =
    bif highB h then bif !spB d (stepN h) h then lp405 Λ K fuel (vs405 h (IntKind.i64.wrap (d + 1))) else K (.exit 0) (vs405 h d) else none := by kernel_rfl
def nxOk (h d : Int) : Bool := decide (d < nxI d (stepN h) h) && decide (nxI d (stepN h) h ≤ h) && spB (nxI d (stepN h) h) (stepN h) h
theorem nx_all : ((List.range 33).all fun h : Nat => (List.range h).all fun d : Nat => nxOk h d && (List.range h).all fun y : Nat => !(decide (d < y) && decide ((y : Int) < nxI d (stepN h) h)) || !spB y (stepN h) h) = true := by kernel_rfl
def Λ405 : Lam AV := fun cur vs K =>
  match cur, vs with
  | 0, [.one (.int .i64 h), .one (.int .i64 d)] => bif highB h && decide (1 ≤ d) && decide (d ≤ h) then K (.exit 0) (vs405 h (nxI (d - 1) (stepN h) h)) else none
  | _, _ => none
theorem nx_spec {h d : Nat} (h2 : h ≤ 32) (hd : d < h) : (d : Int) < nxI d (stepN h) h ∧ nxI d (stepN h) h ≤ h ∧ spB (nxI d (stepN h) h) (stepN h) h = true ∧ ∀ y : Nat, d < y → (y : Int) < nxI d (stepN h) h → spB y (stepN h) h = false := by
  have h1 := List.all_eq_true.1 (List.all_eq_true.1 nx_all h (List.mem_range.2 (by omega))) d (List.mem_range.2 hd)
  simp only [Bool.and_eq_true, nxOk, decide_eq_true_eq] at h1
  obtain ⟨⟨⟨a, b⟩, c⟩, e⟩ := h1
  refine ⟨a, b, c, fun y hy hx => ?_⟩
  have := List.all_eq_true.1 e y (List.mem_range.2 (by omega))
  simp only [hy, hx, decide_true, Bool.and_self, Bool.not_true, Bool.false_or, Bool.not_eq_true'] at this
  exact this
theorem loop405 : LoopP tb (orc [(N403, s403)]) Λ405 ⟨14, 0, [(0, live405)]⟩ (loopK F405 0) := by
  intro vs K out e
  have hcur : (loopK F405 0).1 = 0 := by kernel_rfl
  rw [hcur] at e ⊢
  unfold Λ405 at e
  split at e
  · rename_i h d _
    cases hc : (highB h && decide (1 ≤ d) && decide (d ≤ h)) with
    | false => rw [hc] at e; cases e
    | true =>
      rw [hc] at e
      simp only [cond_true] at e
      simp only [Bool.and_eq_true, decide_eq_true_eq] at hc
      obtain ⟨⟨hh, h1⟩, h2⟩ := hc
      have h3 := highB_iff.1 hh
      obtain ⟨H, rfl⟩ := Int.eq_ofNat_of_zero_le (show 0 ≤ h by omega)
      obtain ⟨D, rfl⟩ : ∃ D : Nat, d = ((D + 1 : Nat) : Int) := ⟨(d - 1).toNat, by omega⟩
      rw [show ((D + 1 : Nat) : Int) - 1 = (D : Int) by omega] at e
      obtain ⟨a, b, c, f⟩ := nx_spec (h := H) (d := D) (by omega) (by omega)
      generalize hX : nxI (D : Int) (stepN H) H = X at *
      obtain ⟨X, rfl⟩ := Int.eq_ofNat_of_zero_le (show 0 ≤ X by omega)
      refine upLoopI (α := Unit) (n := X) (F := fun fuel _ i => lp405 Λ405 K fuel (vs405 H i)) (G := fun _ _ => K (.exit 0) (vs405 H X)) (Inv := fun j _ => D < j) (fun fuel _ => ?_) (fun _ j hj hi => ?_) (X - (D + 1)) (D + 1) () out (by omega) (by omega) e
      · simp only [step405, hh, c, cond_true, Bool.not_true, cond_false]
      · left
        refine ⟨(), by omega, fun fuel => ?_, rfl⟩
        simp only [step405, hh, f j hi (by omega), cond_true, Bool.not_false]
        rw [wrap64 (by omega) (by omega)]; rfl
  · cases e
theorem r405 (h d : Int) : run (orc [(N403, s403)]) Λ405 [(0, live405)] F405 (encA [.v I, .v I] (h, d)) [] =
    bif highB h && decide (1 ≤ IntKind.i64.wrap (d + 1)) && decide (IntKind.i64.wrap (d + 1) ≤ h) then some (.one (.int .i64 (nxI (IntKind.i64.wrap (d + 1) - 1) (stepN h) h))) else none := by kernel_rfl
def s405 : Sp := .fn [.v I, .v I] fun x => (highB x.1 && decide (0 ≤ x.2) && decide (x.2 < x.1), .one (.int .i64 (nxI x.2 (stepN x.1) x.1)))
theorem next_run {h d : Int} (e : (highB h && decide (0 ≤ d) && decide (d < h)) = true) : (bif highB h && decide (1 ≤ IntKind.i64.wrap (d + 1)) && decide (IntKind.i64.wrap (d + 1) ≤ h) then some (AV.one (.int .i64 (nxI (IntKind.i64.wrap (d + 1) - 1) (stepN h) h))) else none) = some (.one (.int .i64 (nxI d (stepN h) h))) := by
  simp only [Bool.and_eq_true, decide_eq_true_eq] at e
  obtain ⟨⟨e1, e2⟩, e3⟩ := e
  have h3 := highB_iff.1 e1
  rw [wrap64 (by omega) (by omega), e1, decide_eq_true (show 1 ≤ d + 1 by omega), decide_eq_true (show d + 1 ≤ h by omega), show d + 1 - 1 = d by omega]; rfl
theorem g405 : GoodS Try.prog N405 s405 := by
  refine good (.cons g403 (.nil _)) H405 rfl (by kernel_rfl) Λ405 [(0, live405)] (oneLoop (p0 := loopK F405 0) (by kernel_rfl) loop405) [.v I, .v I] (by decide) [] _ fun x r hw e => ?_
  obtain ⟨h, d⟩ := x
  have e1 := congrArg Prod.fst e
  have e2 := congrArg Prod.snd e
  simp only at e1 e2
  rw [← e2]
  exact (r405 h d).trans (next_run e1)
def Γ372 : Orc := orc [(N345, s345), (N404, s404), (N403, s403), (N405, s405)]
theorem sp_lt {i n h : Int} (hs : spB i n h = false) (hi : i ≤ h) : i < h := by
  rcases Int.lt_or_eq_of_le hi with h1 | rfl
  · exact h1
  · unfold spB at hs
    cases hc : i.tmod n == 0 with
    | true => rw [hc] at hs; cases hs
    | false => rw [hc] at hs; simp at hs
def us2 (h : Int) (s : Subset.D) : Option AV :=
  bif decide (1 ≤ s.1) then bif highB h then bif spB (depI s.1) (stepN h) h then some (rb2 true 0) else
    bif decide (1 ≤ s.1) then bif highB h && decide (0 ≤ depI s.1) && decide (depI s.1 < h) then bif decide (1 ≤ s.2) then some (rb2 (decide (nxI (depI s.1) (stepN h) h ≥ depI s.2)) 0) else none else none else none
  else none else none
theorem r372 (h : Int) (s : Subset.D) : run Γ372 noL [] F372 (encA [.v I, .v Subset] (h, s)) [] = bif subE h s != 0 then some (rb2 false 1) else bif s.2 == 0 then some (rb2 (s.1 == 1) 0) else us2 h s := by kernel_rfl
theorem use_ok {h : Int} {s : Subset.D} (h1 : IntKind.u64.has s.1) (h2 : IntKind.u64.has s.2) (hk : okS h.toNat s.1.toNat s.2.toNat = true) (hj : (s.2 == 0) = false) :
    highB h = true ∧ 1 ≤ s.1 ∧ 1 ≤ s.2 ∧ 0 ≤ depI s.1 ∧ depI s.1 ≤ h ∧ useI h s = (bif spB (depI s.1) (stepN h) h then true else decide (depI s.2 ≤ nxI (depI s.1) (stepN h) h), 0) := by
  obtain ⟨a0, a1, a2⟩ := hasU h1
  obtain ⟨b0, b1, b2⟩ := hasU h2
  obtain ⟨k1, k2⟩ := okS_iff.1 hk
  have hj' : s.2.toNat ≠ 0 := by rw [eq0_nat b0] at hj; simpa using hj
  obtain ⟨j1, _, _⟩ := k2.resolve_left hj'
  have c1 : (chkI h s.1 != 0) = false := by rw [chk_ne a0, k1]; rfl
  have c2 : (chkI h s.2 != 0) = false := by rw [chk_ne b0, j1]; rfl
  obtain ⟨p1, p2, p3⟩ := chk_zero c1
  obtain ⟨_, q2, _⟩ := chk_zero c2
  have c0 : (chkI h 1 != 0) = false := by
    obtain ⟨o1, o2, _⟩ := okN_iff.1 k1
    rw [chk_ne (by decide)]
    show (!okN h.toNat 1) = false
    rw [okN_one, decide_eq_true o1, decide_eq_true o2]; rfl
  have e0 : stepI h = (stepN h, 0) := by unfold stepI; rw [c0]; rfl
  have e1 : depthI h s.1 = (depI s.1, 0) := by unfold depthI; rw [c1]; rfl
  have e2 : depthI h s.2 = (depI s.2, 0) := by unfold depthI; rw [c2]; rfl
  refine ⟨p1, p2, q2, by rw [dep_nat p2]; exact Int.natCast_nonneg _, p3, ?_⟩
  have eB : depB h s = true := by unfold depB; rw [e1]; unfold bne; rw [hj]; rfl
  unfold useI useB depJ depE
  rw [subE_ne h1 h2, hk, hj, eB, e0, e1, e2]
  rfl
theorem use_run {h : Int} {s : Subset.D} (h1 : IntKind.u64.has s.1) (h2 : IntKind.u64.has s.2) : (bif subE h s != 0 then some (rb2 false 1) else bif s.2 == 0 then some (rb2 (s.1 == 1) 0) else us2 h s) = some (rb2 (useI h s).1 (useI h s).2) := by
  cases hk : okS h.toNat s.1.toNat s.2.toNat with
  | false =>
    have e : subE h s = 1 := by rw [subE_nat h1 h2, hk]; rfl
    unfold useI; rw [e]; rfl
  | true =>
    have e : (subE h s != 0) = false := by rw [subE_ne h1 h2, hk]; rfl
    cases hj : s.2 == 0 with
    | true => unfold useI; rw [e, hj]; rfl
    | false =>
      obtain ⟨p1, p2, p3, p4, p5, p6⟩ := use_ok h1 h2 hk hj
      rw [e, p6]
      unfold us2
      rw [decide_eq_true p2, p1, decide_eq_true p3, decide_eq_true p4]
      cases hs : spB (depI s.1) (stepN h) h with
      | true => rfl
      | false =>
        have hlt : depI s.1 < h := sp_lt hs p5
        rw [decide_eq_true hlt]; rfl
theorem g372 : GoodS Try.prog N372 s327 := by
  refine good (.cons g345 (.cons g404 (.cons g403 (.cons g405 (.nil _))))) H372 rfl (by kernel_rfl) noL [] (noLoops (by kernel_rfl)) [.v I, .v Subset] (by decide) [] _ fun x r hw e => ?_
  obtain ⟨h, s⟩ := x
  cases e
  exact (r372 h s).trans (use_run hw.2.1 hw.2.2)

/-! ### r12.scheme, May -/
def schB (h k : Int) : Bool := bif bif mayN h 1 then decide (k ≥ 1) else false then decide (k ≤ 3) else false
theorem r373 (h k : Int) : run (orc [(N374, s374)]) noL [] F373 (encA [.v I, .v I] (h, k)) [] = some (.one (.bool (schB h k))) := by kernel_rfl
def s373 : Sp := .fn [.v I, .v I] fun x => (true, .one (.bool (schB x.1 x.2)))
theorem g373 : GoodS Try.prog N373 s373 := by
  refine good (.cons g374 (.nil _)) H373 rfl (by kernel_rfl) noL [] (noLoops (by kernel_rfl)) [.v I, .v I] (by decide) [] _ fun x r hw e => ?_
  obtain ⟨h, k⟩ := x
  cases e
  exact r373 h k
theorem sch_ne (h k : Int) : (schE h k != 0) = !schB h k := by
  unfold schE schB
  have : mayN h 1 = okN h.toNat 1 := rfl
  rw [this]
  by_cases hk : 1 ≤ k ∧ k ≤ 3
  · rw [decide_eq_false (show ¬ k < 1 by omega), decide_eq_false (show ¬ k > 3 by omega), decide_eq_true (show k ≥ 1 by omega), decide_eq_true (show k ≤ 3 by omega)]
    simp only [cond_false]
    rw [chk_ne (by decide)]
    show (!okN h.toNat 1) = _
    cases okN h.toNat 1 <;> rfl
  · have e1 : (bif decide (k < 1) then true else decide (k > 3)) = true := by
      cases e : decide (k < 1) with
      | true => rfl
      | false => have := of_decide_eq_false e; exact decide_eq_true (by omega)
    rw [e1]
    have e2 : (bif bif okN h.toNat 1 then decide (k ≥ 1) else false then decide (k ≤ 3) else false) = false := by
      cases okN h.toNat 1 with
      | false => rfl
      | true =>
        cases e : decide (k ≥ 1) with
        | false => rfl
        | true => have := of_decide_eq_true e; exact decide_eq_false (by omega)
    rw [e2]; rfl
def mayB3' (h k : Int) (s : Subset.D) : Bool := bif !schB h k then true else subE h s != 0
theorem r335 (h k : Int) (s : Subset.D) : run (orc [(N373, s373), (N345, s345), (N372, s327)]) noL [] F335 (encA [.v I, .v I, .v Subset] (h, k, s)) [] =
    bif mayB3' h k s then some (rb2 false 1) else bif k == 1 then some (rb2 (s.2 == 0) 0) else bif k == 2 then some (rb2 (bif s.2 != 0 then true else s.1 == 1) 0) else some (rb2 (useI h s).1 (useI h s).2) := by kernel_rfl
theorem g335 : GoodS Try.prog N335 s318 := by
  refine good (.cons g373 (.cons g345 (.cons g372 (.nil _)))) H335 rfl (by kernel_rfl) noL [] (noLoops (by kernel_rfl)) [.v I, .v I, .v Subset] (by decide) [] _ fun x r hw e => ?_
  obtain ⟨h, k, s⟩ := x
  cases e
  refine (r335 h k s).trans ?_
  show _ = some (rb2 (mayI h k s).1 (mayI h k s).2)
  have eb : mayB3' h k s = mayB3 h k s := by unfold mayB3' mayB3; rw [sch_ne]
  unfold mayI
  rw [eb]
  cases mayB3 h k s with
  | true => rfl
  | false =>
    cases k == 1 with
    | true => rfl
    | false => cases k == 2 <;> rfl
end Go.AM.Seat
