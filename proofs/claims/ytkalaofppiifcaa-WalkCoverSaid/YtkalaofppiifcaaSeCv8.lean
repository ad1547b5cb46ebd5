/- The seat: contracts: steiner.children with Hang$1. -/
import Derived.Test.YtkalaofppiifcaaSeCv7
import Derived.Test.YtkalaofppiifcaaAmNil
set_option linter.unusedVariables false
set_option linter.unusedSimpArgs false
set_option maxRecDepth 100000
namespace Go.AM.Seat
open Go Go.AM Go.Proofs
def Γ412 : Orc := orcL 63 [(N427, s427), (N416, s416), (N402, s402u), (N413, s413c)]
theorem Γ412ok : OrcOk Try.prog Γ412 := OrcOk.toL 63 (.cons g427 (.cons g416 (.cons g402u (.cons g413c (.nil _)))))
abbrev live412a : List (Nat × Dir) := [(0, .keep), (2, .keep), (6, .keep), (7, .keep), (26, .keep), (27, .keep), (28, .keep), (62, .keep), (63, .keep)]
abbrev live412b : List (Nat × Dir) := [(0, .keep), (2, .keep), (6, .keep), (7, .keep), (10, .keep), (11, .arr U), (26, .keep), (27, .keep), (28, .keep), (32, .keep), (62, .keep), (63, .keep)]
abbrev lay412 : List (Nat × List (Nat × Dir)) := [(0, live412a), (2, live412b)]
def fn412 : AV := .one (.fn N413 [.ref 62 0])
def vs412a (a : Int) (t hs t2 : List Int) (n i : Int) : List AV := [.one (.int .i64 a), fn412, .one (.int .i64 0), .one (.sl true U none t), .one (.sl true U none t2), .one (.int .i64 n), .one (.int .i64 i), .gho (AV.own [.hot 63 none]).ov, .gho (AV.arr true U hs).ov]
def vs412b (a : Int) (t : List Int) (x : Int) (o hs t2 : List Int) (n i j : Int) : List AV := [.one (.int .i64 a), fn412, .one (.int .i64 0), .one (.sl true U none t), .one (.int .u64 x), .arr true U o, .one (.sl true U none t2), .one (.int .i64 n), .one (.int .i64 i), .one (.int .i64 j), .gho (AV.own [.hot 63 none]).ov, .gho (AV.arr true U hs).ov]
noncomputable abbrev lk412 (k : Nat) : Nat × Code := (loopsOf 0 (body F412)).getD k (0, .skip)
noncomputable abbrev lo412a (Λ : Lam (AV × List AV)) (K : AE → List AV → Option (AV × List AV)) (fuel : Nat) (vs : List AV) : Option (AV × List AV) := loopN (aexec tb Γ412 Λ ⟨62, 2, lay412⟩ (lk412 0).2 0) 62 2 live412a K fuel vs
noncomputable abbrev lo412b (Λ : Lam (AV × List AV)) (K : AE → List AV → Option (AV × List AV)) (fuel : Nat) (vs : List AV) : Option (AV × List AV) := loopN (aexec tb Γ412 Λ ⟨62, 2, lay412⟩ (lk412 1).2 2) 62 2 live412b K fuel vs
theorem step412b (a : Int) (t : List Int) (x : Int) (o hs t2 : List Int) (n i j : Int) (Λ : Lam (AV × List AV)) (K : AE → List AV → Option (AV × List AV)) (fuel : Nat) : lo412b Λ K (fuel + 1) (vs412b a t x o hs t2 n i j) =
    bif decide (j < 2) then bif (childI a x j).2 != 0 then K (.exit 2) (vs412b a t x o hs t2 n i j) else bif decide (t.length ≤ 1000000) then
      bif !foundBu t (childI a x j).1 then bif nR8 (o.length + [(childI a x j).1].length) then lo412b Λ K fuel (vs412b a t x (o ++ [(childI a x j).1]) hs t2 n i (IntKind.i64.wrap (j + 1))) else none
      else lo412b Λ K fuel (vs412b a t x o hs t2 n i (IntKind.i64.wrap (j + 1))) else none else K (.exit 2) (vs412b a t x o hs t2 n i j) := by kernel_rfl
/-- The children of a node that are not in a tree. -/
def add1 (t o : List Int) (c : Int) : List Int := bif !foundBu t c then o ++ [c] else o
def kidsL (a : Int) (t : List Int) (x : Int) : List Int := bif (childI a x 0).2 != 0 then [] else bif (childI a x 1).2 != 0 then add1 t [] (childI a x 0).1 else add1 t (add1 t [] (childI a x 0).1) (childI a x 1).1
def kidsJ (a : Int) (x : Int) : Int := bif (childI a x 0).2 != 0 then 0 else bif (childI a x 1).2 != 0 then 1 else 2
def Λ412b : Lam (AV × List AV) := fun _ vs K =>
  match vs with
  | [.one (.int .i64 a), .one (.fn f [.ref 62 0]), .one (.int .i64 0), .one (.sl true (.int .u64) none t), .one (.int .u64 x), .arr true (.int .u64) [], .one (.sl true (.int .u64) none t2), .one (.int .i64 n), .one (.int .i64 i), .one (.int .i64 0), .gho (.own [.hot 63 none]), .gho (.arr true (.int .u64) hs)] =>
    bif Nat.beq f N413 && decide (t.length ≤ 1000000) then K (.exit 2) (vs412b a t x (kidsL a t x) hs t2 n i (kidsJ a x)) else none
  | _ => none
theorem go412b {ρ : Type} {a : Int} {t : List Int} {x : Int} (ht : t.length ≤ 1000000) {F : Nat → List Int → Int → Option ρ} {K : List Int → Int → Option ρ}
    (step412b : ∀ fuel o j, F (fuel + 1) o j = bif decide (j < 2) then bif (childI a x j).2 != 0 then K o j else bif decide (t.length ≤ 1000000) then
      bif !foundBu t (childI a x j).1 then bif nR8 (o.length + [(childI a x j).1].length) then F fuel (o ++ [(childI a x j).1]) (IntKind.i64.wrap (j + 1)) else none
      else F fuel o (IntKind.i64.wrap (j + 1)) else none else K o j) :
    F 3 [] 0 = K (kidsL a t x) (kidsJ a x) := by
  have hd := decide_eq_true ht
  have d0 : decide ((0 : Int) < 2) = true := rfl
  have d1 : decide ((1 : Int) < 2) = true := rfl
  have d2 : decide ((2 : Int) < 2) = false := rfl
  have w0 : IntKind.i64.wrap (0 + 1) = 1 := by decide
  have w1 : IntKind.i64.wrap (1 + 1) = 2 := by decide
  have r0 : ∀ (c : Int), nR8 (([] : List Int).length + [c].length) = true := fun c => by simp [nR8]
  have r1 : ∀ (c d : Int), nR8 (([] ++ [c] : List Int).length + [d].length) = true := fun c d => by simp [nR8]
  unfold kidsL kidsJ add1
  rw [step412b, d0, w0, hd, r0]
  cases h0 : (childI a x 0).2 != 0 with
  | true => rfl
  | false =>
    cases f0 : !foundBu t (childI a x 0).1 with
    | true =>
      simp only [cond_true, cond_false]
      rw [step412b, d1, w1, hd, r1]
      cases h1 : (childI a x 1).2 != 0 with
      | true => rfl
      | false =>
        cases f1 : !foundBu t (childI a x 1).1 <;> simp only [cond_true, cond_false] <;> rw [step412b, d2] <;> rfl
    | false =>
      simp only [cond_true, cond_false]
      rw [step412b, d1, w1, hd, r0]
      cases h1 : (childI a x 1).2 != 0 with
      | true => rfl
      | false =>
        cases f1 : !foundBu t (childI a x 1).1 <;> simp only [cond_true, cond_false] <;> rw [step412b, d2] <;> rfl
def hangG (a : Int) (t : List Int) : List Int → List Int → List Int
  | [], hs => hs
  | x :: r, hs => hangG a t r (hs ++ kidsL a t x)
def Λ412a : Lam (AV × List AV) := fun _ vs K =>
  match vs with
  | [.one (.int .i64 a), .one (.fn f [.ref 62 0]), .one (.int .i64 0), .one (.sl true (.int .u64) none t), .one (.sl true (.int .u64) none t2), .one (.int .i64 n), .one (.int .i64 0), .gho (.own [.hot 63 none]), .gho (.arr true (.int .u64) hs)] =>
    bif Nat.beq f N413 && (decide (n = t2.length) && (decide (t.length ≤ 1000000) && (decide (t2.length ≤ 1000000) && decide (hs.length ≤ 1000000)))) then K (.exit 0) (vs412a a t (hangG a t t2 hs) t2 n n) else none
  | _ => none
def Λ412 : Lam (AV × List AV) := fun cur vs K => match cur with | 0 => Λ412a cur vs K | 2 => Λ412b cur vs K | _ => none
theorem step412a (a : Int) (t hs t2 : List Int) (n i : Int) (K : AE → List AV → Option (AV × List AV)) (fuel : Nat) : lo412a Λ412 K (fuel + 1) (vs412a a t hs t2 n i) =
    bif decide (i < n) then bif inB i t2.length then bif Nat.beq N413 N413 && decide (t.length ≤ 1000000) then bif nR8 (hs.length + (kidsL a t (bsAu t2 i)).length) then
      lo412a Λ412 K fuel (vs412a a t (hs ++ kidsL a t (bsAu t2 i)) t2 n (IntKind.i64.wrap (i + 1))) else none else none else none else K (.exit 0) (vs412a a t hs t2 n i) := by kernel_rfl
theorem loop412b : LoopP tb Γ412 Λ412 ⟨62, 2, lay412⟩ (lk412 1) := by
  intro vs K out h
  have hcur : (lk412 1).1 = 2 := by kernel_rfl
  rw [hcur] at h ⊢
  replace h : Λ412b vs.length vs K = some out := h
  unfold Λ412b at h
  split at h
  · rename_i a f t x t2 n i hs
    cases hc : Nat.beq f N413 && decide (t.length ≤ 1000000) with
    | false => rw [hc] at h; cases h
    | true =>
      rw [hc] at h
      simp only [Bool.and_eq_true, decide_eq_true_eq] at hc
      obtain ⟨hf, ht⟩ := hc
      obtain rfl := Nat.eq_of_beq_eq_true hf
      refine ⟨3, Eq.trans ?_ h⟩
      exact go412b ht (F := fun fuel o j => lo412b Λ412 K fuel (vs412b a t x o hs t2 n i j)) (K := fun o j => K (.exit 2) (vs412b a t x o hs t2 n i j)) (fun fuel o j => step412b a t x o hs t2 n i j Λ412 K fuel)
  · cases h
theorem add1_len (t o : List Int) (c : Int) : (add1 t o c).length ≤ o.length + 1 := by
  unfold add1
  cases !foundBu t c with
  | true => simp
  | false => exact Nat.le_succ _
theorem kidsL_len (a : Int) (t : List Int) (x : Int) : (kidsL a t x).length ≤ 2 := by
  unfold kidsL
  have h1 := add1_len t [] (childI a x 0).1
  have h2 := add1_len t (add1 t [] (childI a x 0).1) (childI a x 1).1
  simp only [List.length_nil] at h1
  cases (childI a x 0).2 != 0 with
  | true => exact Nat.zero_le _
  | false =>
    cases (childI a x 1).2 != 0 with
    | true => simp only [cond_true, cond_false]; omega
    | false => simp only [cond_false]; omega
theorem go412a {ρ : Type} {a : Int} {t t2 : List Int} (h1 : t.length ≤ 1000000) (h2 : t2.length ≤ 1000000) {F : Nat → List Int → Int → Option ρ} {K : List Int → Int → Option ρ} {out : ρ}
    (step : ∀ fuel hs i, F (fuel + 1) hs i = bif decide (i < (t2.length : Int)) then bif inB i t2.length then bif Nat.beq N413 N413 && decide (t.length ≤ 1000000) then bif nR8 (hs.length + (kidsL a t (bsAu t2 i)).length) then
      F fuel (hs ++ kidsL a t (bsAu t2 i)) (IntKind.i64.wrap (i + 1)) else none else none else none else K hs i) :
    ∀ (m j : Nat) (hs : List Int), j + m = t2.length → hs.length ≤ 1000000 + 2 * j → K (hangG a t (t2.drop j) hs) t2.length = some out → ∃ fuel, F fuel hs (j : Int) = some out := by
  intro m
  induction m with
  | zero =>
    intro j hs hj hl h
    obtain rfl : j = t2.length := by omega
    rw [List.drop_length] at h
    exact ⟨1, by rw [step, nlt_dec]; exact h⟩
  | succ m ih =>
    intro j hs hj hl h
    have hlt : j < t2.length := by omega
    have hk := kidsL_len a t (bsAu t2 (j : Int))
    have e1 : bsAu t2 (j : Int) = t2[j] := by unfold bsAu; simp [hlt]
    rw [List.drop_eq_getElem_cons hlt, ← e1] at h
    obtain ⟨fuel, hf⟩ := ih (j + 1) (hs ++ kidsL a t (bsAu t2 (j : Int))) (by omega) (by rw [List.length_append]; omega) h
    refine ⟨fuel + 1, ?_⟩
    have g : nR8 (hs.length + (kidsL a t (bsAu t2 (j : Int))).length) = true := decide_eq_true (by omega)
    have g2 : (Nat.beq N413 N413 && decide (t.length ≤ 1000000)) = true := by rw [decide_eq_true h1]; rfl
    rw [step, lt_dec hlt, inB_lt hlt, g2, g, wrap64 (n := (j : Int) + 1) (by omega) (by omega)]
    exact hf
theorem loop412a : LoopP tb Γ412 Λ412 ⟨62, 2, lay412⟩ (lk412 0) := by
  intro vs K out h
  have hcur : (lk412 0).1 = 0 := by kernel_rfl
  rw [hcur] at h ⊢
  replace h : Λ412a vs.length vs K = some out := h
  unfold Λ412a at h
  split at h
  · rename_i a f t t2 n hs
    cases hc : Nat.beq f N413 && (decide (n = t2.length) && (decide (t.length ≤ 1000000) && (decide (t2.length ≤ 1000000) && decide (hs.length ≤ 1000000)))) with
    | false => rw [hc] at h; cases h
    | true =>
      rw [hc] at h
      simp only [Bool.and_eq_true, decide_eq_true_eq] at hc
      obtain ⟨hf, rfl, ht, ht2, hh⟩ := hc
      obtain rfl := Nat.eq_of_beq_eq_true hf
      exact go412a (a := a) (t := t) (t2 := t2) ht ht2 (F := fun fuel hs i => lo412a Λ412 K fuel (vs412a a t hs t2 t2.length i)) (K := fun hs i => K (.exit 0) (vs412a a t hs t2 t2.length i))
        (fun fuel hs i => step412a a t hs t2 t2.length i K fuel) t2.length 0 hs (by omega) (by omega) h
  · cases h
end Go.AM.Seat
