/- The seat: contracts: diff.Cover. -/
import Derived.Test.YtkalaofppiifcaaSeOr
set_option linter.unusedVariables false
set_option linter.unusedSimpArgs false
set_option maxRecDepth 100000
namespace Go.AM.Seat
open Go Go.AM Go.Proofs
theorem io391n (a : Int) (l : List Int) (top : Int) (hb : cutB a l 40 top [] = true) :
    GoodIO Try.prog N391 [.one (.ptr 0 0), .one (.int .u64 top)] 1 [.own [.int .i64 a, .sl false U none l, .nils]] (.one (.int .i64 (cutR a l 40 top []).2)) [.own [.int .i64 a, .sl false U none l, .hot 1 none], .arr true Subset (cutR a l 40 top []).1] := by
  refine GoodIO.nilObj (cs := [.int .i64 a, .sl false U none l]) (t := Subset) (io391 (g391 39) a l top [] hb) (fun w μ μ' ok vs h0 h => ?_) (fun w μ μ' ok vs h => ?_)
  · cases h with
    | cons h1 t =>
    cases t with
    | cons h2 t =>
    cases t
    refine .cons ?_ (.cons h2 .nil)
    obtain ⟨b, hb, hv⟩ := (h1 : ∃ b, (μ 0).b = some b ∧ _)
    exact (⟨b, by rw [h0]; exact hb, hv⟩ : ∃ b', (μ' 0).b = some b' ∧ _ = Go.Value.pointer (some ⟨b', 0, none⟩))
  · cases h with
    | cons h1 t =>
    cases t with
    | cons h2 t =>
    cases t
    exact .cons h1 (.cons h2 .nil)
def s391n : Sp := .io fun x p gs => match x, p, gs with
  | [.one (.ptr 0 0), .one (.int .u64 top)], 1, [.own [.int .i64 a, .sl false (.int .u64) none l, .nils]] =>
    some (cutB a l 40 top [], .one (.int .i64 (cutR a l 40 top []).2), [.own [.int .i64 a, .sl false U none l, .hot 1 none], .arr true Subset (cutR a l 40 top []).1])
  | _, _, _ => none
theorem g391n : GoodS Try.prog N391 s391n := by
  refine GoodS.io (callable_of H391 (bd rfl) (by kernel_rfl)) fun a p gs r gs' hw1 hw2 h => ?_
  clear hw1 hw2
  unfold s391n at h
  split at h
  · rename_i top a l
    simp only [Option.some.injEq, Prod.mk.injEq] at h
    obtain ⟨hb, rfl, rfl⟩ := h
    exact io391n a l top hb
  · cases h
def Γ357 : Orc := orcL 44 [(N390, s390), (N391, s391n), (N392, s392)]
theorem Γ357ok : OrcOk Try.prog Γ357 := OrcOk.toL 44 (.cons g390 (.cons g391n (.cons g392 (.nil _))))
theorem r357 (a : Int) (l : List Int) : runG Γ357 noL 2 [] F357 [.one (.int .i64 a), .one (.sl false U none l)] [.sl true Subset, .id] =
    bif (belowR a l 1).2 != 0 then some (rls2 [] (belowR a l 1).2) else bif !decide (((belowR a l 1).1.length : Int) > 0) then some (rls2 [(1, 0)] 0) else
    bif cutB a l 40 1 [] then bif (cutR a l 40 1 []).2 != 0 then some (rls2 [] (cutR a l 40 1 []).2) else
      bif (Nat.beq N393 N393 || Nat.beq N393 N396) && decide ((cutR a l 40 1 []).1.length ≤ 1000000) then some (rls2 (sortQ (cutR a l 40 1 []).1) 0) else none else none := by kernel_rfl
theorem cut_fit {a : Int} {l : List Int} (h : lokB a l = true) (hu : ∀ x ∈ l, IntKind.u64.has x) (hne : l ≠ []) : cutB a l 40 1 [] = true ∧ (cutR a l 40 1 []).1.length ≤ 2048 := by
  have s := setN_of h hu
  have ho : okN a.toNat 1 = true := by rw [okN_one, decide_eq_true s.h1, decide_eq_true s.h2]; rfl
  cases hl : l with
  | nil => exact absurd hl hne
  | cons y r =>
    rw [← hl]
    obtain ⟨c0, c, c1, c2⟩ := cut_run s h 40 1 ho (by have := s.h2; omega) ⟨y.toNat, by rw [hl]; simp, abv_one leafN_ne⟩
    have c2 : cutR a l 40 1 [] = _ := c2 []
    have c0 : cutOk a l 40 1 = true := c0
    refine ⟨?_, ?_⟩
    · unfold cutB
      rw [c0]; rfl
    · rw [c2, List.nil_append, List.length_map]
      have h1 := cut_len s.lt c1
      have h2 : (l.map Int.toNat).countP (fun i => abv 1 (leafN a.toNat i)) ≤ (l.map Int.toNat).length := List.countP_le_length
      have := s.len
      omega
def s357 : Sp := .fn [.v I, .v (.sl U)] fun x => (true, rls2 (diffI x.1 x.2).1 (diffI x.1 x.2).2)
theorem g357 : GoodS Try.prog N357 s357 := by
  refine goodG Γ357ok H357 rfl (by kernel_rfl) noL 2 [] (noLoops (by kernel_rfl)) [.v I, .v (.sl U)] (by decide) [.sl true Subset, .id] _ (fun x r hw e => ?_) (fun x hx => by cases hx; decide)
  obtain ⟨a, l⟩ := x
  cases e
  refine (r357 a l).trans ?_
  show _ = some (rls2 (diffI a l).1 (diffI a l).2)
  unfold diffI
  cases h1 : (belowR a l 1).2 != 0 with
  | true => rfl
  | false =>
    have h2 : lokB a l = true := by
      unfold belowR at h1
      cases hb : belowB a l 1 with
      | true => rw [hb] at h1; cases h1
      | false =>
        unfold belowB at hb
        cases h3 : (leavesI a 1).2 != 0 with
        | true => rw [h3] at hb; cases hb
        | false => rw [h3] at hb; exact lchk_ok hb
    cases h3 : !decide (((belowR a l 1).1.length : Int) > 0) with
    | true => rfl
    | false =>
      have hu : ∀ x ∈ l, IntKind.u64.has x := hw.2.2
      have hne : l ≠ [] := by
        intro e
        have hz : (belowR a l 1).1 = [] := by
          rw [e]; unfold belowR belowL
          cases belowB a [] 1 <;> rfl
        rw [hz] at h3
        exact absurd h3 (by decide)
      obtain ⟨f1, f2⟩ := cut_fit h2 hu hne
      rw [f1]
      cases h4 : (cutR a l 40 1 []).2 != 0 with
      | true => rfl
      | false =>
        simp only [cond_true, cond_false]
        rw [show (Nat.beq N393 N393 || Nat.beq N393 N396) = true from rfl, decide_eq_true (show (cutR a l 40 1 []).1.length ≤ 1000000 by omega)]
        rfl
end Go.AM.Seat
