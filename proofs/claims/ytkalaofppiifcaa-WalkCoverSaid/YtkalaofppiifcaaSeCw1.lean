/- The seat: contracts: whole.each, whole.Cover. -/
import Derived.Test.YtkalaofppiifcaaSeCv9
set_option linter.unusedVariables false
set_option linter.unusedSimpArgs false
set_option maxRecDepth 100000
namespace Go.AM.Seat
open Go Go.AM Go.Proofs
theorem r389 (n : Int) : run (orc []) noL [] F389 [.one (.int .u64 n)] [] = some (.agg [.int .u64 n, .int .u64 0]) := by kernel_rfl
def s389 : Sp := .fn [.v U] fun n => (true, .agg [.int .u64 n, .int .u64 0])
theorem g389 : GoodS Try.prog N389 s389 := by
  refine good (.nil _) H389 rfl (by kernel_rfl) noL [] (noLoops (by kernel_rfl)) [.v U] (by decide) [] _ fun x r hw e => ?_
  cases e
  exact r389 x
def Γ388 : Orc := orc [(N389, s389)]
abbrev live388 : List (Nat × Dir) := [(1, .keep), (5, .arr Subset), (11, .keep), (12, .keep), (13, .keep)]
def vs388 (f : FuncId) (o : List Subset.D) (l : List Int) (n i : Int) : List AV := [.one (.fn f []), .arr true Subset o, .one (.sl false U none l), .one (.int .i64 n), .one (.int .i64 i)]
noncomputable abbrev lo388 (Λ : Lam AV) (K : AE → List AV → Option AV) (fuel : Nat) (vs : List AV) : Option AV := loopN (aexec tb Γ388 Λ ⟨26, 0, [(0, live388)]⟩ (loop1 F388).2 0) 26 0 live388 K fuel vs
theorem step388 (o : List Subset.D) (l : List Int) (n i : Int) (Λ : Lam AV) (K : AE → List AV → Option AV) (fuel : Nat) : lo388 Λ K (fuel + 1) (vs388 N389 o l n i) =
    bif decide (i < n) then bif inB i l.length then bif inB i o.length then lo388 Λ K fuel (vs388 N389 (o.set i.toNat (bsAu l i, 0)) l n (IntKind.i64.wrap (i + 1))) else none else none else K (.exit 0) (vs388 N389 o l n i) := by kernel_rfl
/-- The subsets of nodes alone. -/
def wholeS (l : List Int) : List Subset.D := l.map fun x => (x, 0)
def Λ388 : Lam AV := fun _ vs K =>
  match vs with
  | [.one (.fn f []), .arr true (.pair (.int .u64) (.int .u64)) o, .one (.sl false (.int .u64) none l), .one (.int .i64 n), .one (.int .i64 0)] =>
    bif Nat.beq f N389 && (decide (n = l.length) && (decide (o.length = l.length) && decide (l.length ≤ 1000000))) then K (.exit 0) (vs388 N389 (wholeS l) l n n) else none
  | _ => none
theorem fillLoop {ρ : Type} {l : List Int} {F : Nat → List Subset.D → Int → Option ρ} {K : List Subset.D → Int → Option ρ} {out : ρ} (hmax : l.length ≤ 1000000)
    (step : ∀ fuel o i, F (fuel + 1) o i = bif decide (i < (l.length : Int)) then bif inB i l.length then bif inB i o.length then F fuel (o.set i.toNat (bsAu l i, 0)) (IntKind.i64.wrap (i + 1)) else none else none else K o i) :
    ∀ (m j : Nat) (o : List Subset.D), j + m = l.length → o.length = l.length → o.take j = (wholeS l).take j → K (wholeS l) l.length = some out → ∃ fuel, F fuel o (j : Int) = some out := by
  intro m
  induction m with
  | zero =>
    intro j o hj ho ht h
    obtain rfl : j = l.length := by omega
    have e : o = wholeS l := by
      have hw : (wholeS l).length = l.length := by simp [wholeS]
      rw [List.take_of_length_le (by omega), List.take_of_length_le (by omega)] at ht
      exact ht
    exact ⟨1, by rw [step, nlt_dec, e]; exact h⟩
  | succ m ih =>
    intro j o hj ho ht h
    have hlt : j < l.length := by omega
    have e1 : bsAu l (j : Int) = l[j] := by unfold bsAu; simp [hlt]
    obtain ⟨fuel, hf⟩ := ih (j + 1) (o.set j (bsAu l j, 0)) (by omega) (by rw [List.length_set]; exact ho) (by
      have hjo : j < o.length := by omega
      have hjw : j < (wholeS l).length := by simp [wholeS]; omega
      rw [List.take_succ_eq_append_getElem (by rw [List.length_set]; exact hjo), List.take_succ_eq_append_getElem hjw, List.take_set_of_le (Nat.le_refl j), ht, List.getElem_set_self]
      simp [wholeS, e1]) h
    refine ⟨fuel + 1, ?_⟩
    rw [step, lt_dec hlt, inB_lt hlt, inB_lt (show j < o.length by omega), wrap64 (n := (j : Int) + 1) (by omega) (by omega)]
    exact hf
theorem loop388 : LoopP tb Γ388 Λ388 ⟨26, 0, [(0, live388)]⟩ (loop1 F388) := by
  intro vs K out h
  have hcur : (loop1 F388).1 = 0 := by kernel_rfl
  rw [hcur] at h ⊢
  unfold Λ388 at h
  split at h
  · rename_i f o l n
    cases hc : Nat.beq f N389 && (decide (n = l.length) && (decide (o.length = l.length) && decide (l.length ≤ 1000000))) with
    | false => rw [hc] at h; cases h
    | true =>
      rw [hc] at h
      simp only [Bool.and_eq_true, decide_eq_true_eq] at hc
      obtain ⟨hf, rfl, ho, hl⟩ := hc
      obtain rfl := Nat.eq_of_beq_eq_true hf
      exact fillLoop (l := l) hl (F := fun fuel o i => lo388 Λ388 K fuel (vs388 N389 o l l.length i)) (K := fun o i => K (.exit 0) (vs388 N389 o l l.length i)) (fun fuel o i => step388 o l l.length i Λ388 K fuel) l.length 0 o (by omega) ho (by simp) h
  · cases h
theorem r388 (l : List Int) (f : FuncId) (hf : f = N389) : run Γ388 Λ388 [(0, live388)] F388 [.one (.sl false U none l), .one (.fn N389 [])] [.sl true Subset] =
    bif decide (0 ≤ (l.length : Int)) && decide ((l.length : Int) ≤ l.length) && decide ((16 : Int) * l.length ≤ 281474976710656) then
      bif Nat.beq N389 N389 && (decide ((l.length : Int) = l.length) && (decide ((List.replicate (l.length : Int).toNat (Subset.dflt)).length = l.length) && decide (l.length ≤ 1000000))) then some (.one (.sl true Subset none (wholeS l))) else none else none := by kernel_rfl
def s388 : Sp := .fn [.v (.sl U), .raw] fun x => match x.2 with
  | .one (.fn f []) => (Nat.beq f N389 && decide (x.1.length ≤ 1000000), .one (.sl true Subset none (wholeS x.1)))
  | _ => (false, AV.junk)
theorem g388 : GoodS Try.prog N388 s388 := by
  refine good (OrcOk.cons g389 (.nil _)) H388 rfl (by kernel_rfl) Λ388 [(0, live388)] (oneLoop (p0 := loop1 F388) (by kernel_rfl) loop388) [.v (.sl U), .raw] (by decide) [.sl true Subset] _ fun x r hw h => ?_
  obtain ⟨l, c⟩ := x
  simp only at h
  split at h
  · rename_i f
    simp only [Prod.mk.injEq, Bool.and_eq_true, decide_eq_true_eq] at h
    obtain ⟨⟨hf, hl⟩, rfl⟩ := h
    obtain rfl := Nat.eq_of_beq_eq_true hf
    refine (r388 l N389 rfl).trans ?_
    rw [decide_eq_true (show 0 ≤ (l.length : Int) by omega), decide_eq_true (show (l.length : Int) ≤ l.length by omega), decide_eq_true (show (16 : Int) * l.length ≤ 281474976710656 by omega), decide_eq_true hl]
    simp only [Int.toNat_natCast, List.length_replicate, decide_true, Bool.and_self, cond_true, Bool.and_true]
    rfl
  · cases h
def Γ356 : Orc := orc [(N387, s387), (N388, s388)]
def rls2 (l : List Subset.D) (e : Int) : AV := .tup [(false, [.sl true Subset none l]), (false, [.int .i64 e])]
theorem r356 (a : Int) (l : List Int) : run Γ356 noL [] F356 [.one (.int .i64 a), .one (.sl false U none l)] [.sl true Subset, .id] =
    bif Nat.beq N389 N389 && decide ((hangI a l).1.length ≤ 1000000) then some (rls2 (wholeS (hangI a l).1) (hangI a l).2) else none := by kernel_rfl
def s356 : Sp := .fn [.v I, .v (.sl U)] fun x => (decide ((hangI x.1 x.2).1.length ≤ 1000000), rls2 (wholeS (hangI x.1 x.2).1) (hangI x.1 x.2).2)
theorem g356 : GoodS Try.prog N356 s356 := by
  refine good (OrcOk.cons g387 (.cons g388 (.nil _))) H356 rfl (by kernel_rfl) noL [] (noLoops (by kernel_rfl)) [.v I, .v (.sl U)] (by decide) [.sl true Subset, .id] _ fun x r hw h => ?_
  obtain ⟨a, l⟩ := x
  simp only [Prod.mk.injEq] at h
  obtain ⟨hl, rfl⟩ := h
  refine (r356 a l).trans ?_
  rw [hl]; rfl
end Go.AM.Seat
