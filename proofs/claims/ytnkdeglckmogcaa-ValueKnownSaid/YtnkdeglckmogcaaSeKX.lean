/- know.next. -/
import Derived.Test.YtnkdeglckmogcaaSeKM
set_option linter.unusedVariables false
set_option maxRecDepth 100000
namespace Go.AM.Seat
open Go Go.AM Go.Proofs
def Γ68 : Orc := orc [(N70, s70), (N72, s72)]
abbrev live68 : List (Nat × Dir) := [(0, .keep), (17, .keep), (18, .keep), (4, .arr I), (16, .arr I)]
def vs68 (l : List Term.D) (b : List Bool) (c : List Int) (us : List (List Int)) (out row : List Int) (n i : Int) : List AV :=
  [.one (.rp false Mind (l, b, c, us) 0), .one (.int .i64 n), .one (.int .i64 i), .arr true I out, .arr true I row]
noncomputable abbrev lo68 (Λ : Lam AV) (K : AE → List AV → Option AV) (fuel : Nat) (vs : List AV) : Option AV := loopN (aexec tb Γ68 Λ ⟨45, 0, [(0, live68)]⟩ (loop1 F68).2 0) 45 0 live68 K fuel vs
def kA (l : List Int) (i : Int) : Int := l.getD i.toNat (Ty.int IntKind.i64).dflt
def kRoom (n : Nat) : Bool := decide (n * 8 ≤ 140737488355328)
def tail68 {ρ : Type} (l : List Term.D) (b : List Bool) (u : Int) (K : List Int → Option ρ) (out : List Int) : Option ρ :=
  bif (outO l b u).isSome then bif (outO l b u).getD false then bif inB u l.length then bif kRoom (out.length + [(tAt l u).2.2].length) then K (out ++ [(tAt l u).2.2]) else none else none else K out else none
def next68 {ρ : Type} (l : List Term.D) (b : List Bool) (u : Int) (K : List Int → Option ρ) (out : List Int) : Option ρ :=
  bif (madeO l b u).isSome then bif (madeO l b u).getD false then bif kRoom (out.length + [u].length) then tail68 l b u K (out ++ [u]) else none else tail68 l b u K out else none
theorem step68 (l : List Term.D) (b : List Bool) (c : List Int) (us : List (List Int)) (out row : List Int) (n i : Int) (Λ : Lam AV) (K : AE → List AV → Option AV) (fuel : Nat) : lo68 Λ K (fuel + 1) (vs68 l b c us out row n i) =
    bif decide (i < n) then bif inB i row.length then next68 l b (kA row i) (fun out => lo68 Λ K fuel (vs68 l b c us out row n (IntKind.i64.wrap (i + 1)))) out else none else K (.exit 0) (vs68 l b c us out row n i) := by kernel_rfl
/-- What follows from one that is looked at. -/
def nextU (l : List Term.D) (b : List Bool) (u : Int) : List Int := (bif (madeO l b u).getD false then [u] else []) ++ (bif (outO l b u).getD false then [(tAt l u).2.2] else [])
def okU (l : List Term.D) (b : List Bool) (u : Int) : Bool := (madeO l b u).isSome && ((outO l b u).isSome && inB u l.length)
theorem next68_eq {ρ : Type} {l : List Term.D} {b : List Bool} {u : Int} {K : List Int → Option ρ} {out : List Int} (h : okU l b u = true) (hr : kRoom (out.length + 2) = true) : next68 l b u K out = K (out ++ nextU l b u) := by
  simp only [okU, Bool.and_eq_true] at h
  obtain ⟨h1, h2, h3⟩ := h
  have hr' : (out.length + 2) * 8 ≤ 140737488355328 := of_decide_eq_true hr
  have r1 : ∀ x : Int, kRoom (out.length + [x].length) = true := fun x => decide_eq_true (by simp; omega)
  have r2 : ∀ x y : Int, kRoom ((out ++ [x]).length + [y].length) = true := fun x y => decide_eq_true (by simp; omega)
  unfold next68 tail68 nextU
  rw [h1, h2, h3, r1, r1, r2]
  cases (madeO l b u).getD false <;> cases (outO l b u).getD false <;> simp
def Λ68 : Lam AV := fun cur vs K =>
  match cur, vs with
  | 0, [.one (.rp false (.pair (.sl (.pair (.int .i64) (.pair (.int .i64) (.int .i64)))) (.pair (.sl .bool) (.pair (.sl (.int .i64)) (.sl (.sl (.int .i64)))))) m 0), .one (.int .i64 n), .one (.int .i64 0), .arr true (.int .i64) [], .arr true (.int .i64) row] =>
    bif decide (n = row.length) && decide (n ≤ 2000000) && row.all (okU m.1 m.2.1) then K (.exit 0) (vs68 m.1 m.2.1 m.2.2.1 m.2.2.2 (row.flatMap (nextU m.1 m.2.1)) row n n) else none
  | _, _ => none
theorem nextU_len (l : List Term.D) (b : List Bool) (u : Int) : (nextU l b u).length ≤ 2 := by
  unfold nextU
  cases (madeO l b u).getD false <;> cases (outO l b u).getD false <;> simp
theorem flat_len {f : Int → List Int} (hf : ∀ x, (f x).length ≤ 2) : ∀ l : List Int, (l.flatMap f).length ≤ 2 * l.length := by
  intro l
  induction l with
  | nil => simp
  | cons x l ih => have := hf x; simp only [List.flatMap_cons, List.length_append, List.length_cons]; omega
theorem kA_drop {l : List Int} {j : Nat} (h : j < l.length) : l.drop j = kA l j :: l.drop (j + 1) := by
  rw [List.drop_eq_getElem_cons h]
  simp [kA, h]
theorem loop68 : LoopP tb Γ68 Λ68 ⟨45, 0, [(0, live68)]⟩ (loop1 F68) := by
  intro vs K out h
  have hcur : (loop1 F68).1 = 0 := by kernel_rfl
  rw [hcur] at h ⊢
  unfold Λ68 at h
  split at h
  · rename_i m n row _
    obtain ⟨l, b, c, us⟩ := m
    cases hc : (decide (n = row.length) && decide (n ≤ 2000000) && row.all (okU l b)) with
    | false => rw [hc] at h; cases h
    | true =>
      rw [hc] at h
      simp only [cond_true] at h
      simp only [Bool.and_eq_true, decide_eq_true_eq] at hc
      obtain ⟨⟨rfl, hmax⟩, hall⟩ := hc
      have key : ∀ (m j : Nat) (o : List Int), j + m = row.length → o.length ≤ 2 * j → K (.exit 0) (vs68 l b c us (o ++ (row.drop j).flatMap (nextU l b)) row row.length row.length) = some out →
          ∃ fuel, lo68 Λ68 K fuel (vs68 l b c us o row row.length j) = some out := by
        intro m
        induction m with
        | zero =>
          intro j o hj _ h
          obtain rfl : j = row.length := by omega
          rw [List.drop_length, List.flatMap_nil, List.append_nil] at h
          exact ⟨1, by rw [step68, nlt_dec]; exact h⟩
        | succ m ih =>
          intro j o hj ho h
          have hlt : j < row.length := by omega
          have hok : okU l b (kA row j) = true := List.all_eq_true.1 hall _ (by unfold kA; simp [hlt])
          rw [kA_drop hlt, List.flatMap_cons, ← List.append_assoc] at h
          have hl := nextU_len l b (kA row j)
          obtain ⟨fuel, hf⟩ := ih (j + 1) (o ++ nextU l b (kA row j)) (by omega) (by rw [List.length_append]; omega) h
          refine ⟨fuel + 1, ?_⟩
          rw [step68, lt_dec hlt, inB_lt hlt]
          simp only [cond_true]
          rw [next68_eq hok (decide_eq_true (by omega)), wrap64 (n := (j : Int) + 1) (by omega) (by omega)]
          exact hf
      exact key row.length 0 [] (by omega) (by simp) (by simpa using h)
  · cases h
def row68 (us : List (List Int)) (i : Int) : List Int := [i] ++ us.getD i.toNat (Ty.int IntKind.i64).sl.dflt
theorem r68 (l : List Term.D) (b : List Bool) (c : List Int) (us : List (List Int)) (i : Int) : run Γ68 Λ68 [(0, live68)] F68 [.one (.rp false Mind (l, b, c, us) 0), .one (.int .i64 i)] [.sl true I] =
    bif inB i us.length then bif kRoom ([i].length + (us.getD i.toNat (Ty.int IntKind.i64).sl.dflt).length) then
      bif decide (((row68 us i).length : Int) = (row68 us i).length) && decide (((row68 us i).length : Int) ≤ 2000000) && (row68 us i).all (okU l b) then some (.one (.sl true I none ((row68 us i).flatMap (nextU l b)))) else none
    else none else none := by kernel_rfl
def next68ok (l : List Term.D) (b : List Bool) (us : List (List Int)) (i : Int) : Bool := inB i us.length && (decide (((row68 us i).length : Int) ≤ 2000000) && (row68 us i).all (okU l b))
def nextL (l : List Term.D) (b : List Bool) (us : List (List Int)) (i : Int) : List Int := (row68 us i).flatMap (nextU l b)
def s68 : Sp := .fn [.raw, .v I] fun x => match x.1 with
  | .one (.rp false (.pair (.sl (.pair (.int .i64) (.pair (.int .i64) (.int .i64)))) (.pair (.sl .bool) (.pair (.sl (.int .i64)) (.sl (.sl (.int .i64)))))) m 0) => (next68ok m.1 m.2.1 m.2.2.2 x.2, .one (.sl true I none (nextL m.1 m.2.1 m.2.2.2 x.2)))
  | _ => (false, AV.junk)
theorem g68 : GoodS Try.prog N68 s68 := by
  refine good (.cons g70 (.cons g72 (.nil _))) H68 rfl (by kernel_rfl) Λ68 [(0, live68)] (oneLoop (p0 := loop1 F68) (by kernel_rfl) loop68) [.raw, .v I] (by decide) [.sl true I] _ fun x r hw h => ?_
  obtain ⟨c, i⟩ := x
  simp only at h
  split at h
  · rename_i m
    obtain ⟨l, b, k, us⟩ := m
    simp only [Prod.mk.injEq] at h
    obtain ⟨h1, rfl⟩ := h
    refine (r68 l b k us i).trans ?_
    simp only [next68ok, Bool.and_eq_true, decide_eq_true_eq] at h1
    obtain ⟨a1, a2, a3⟩ := h1
    have hlen : (row68 us i).length = [i].length + (us.getD i.toNat (Ty.int IntKind.i64).sl.dflt).length := by unfold row68; rw [List.length_append]
    have hk : kRoom ([i].length + (us.getD i.toNat (Ty.int IntKind.i64).sl.dflt).length) = true := decide_eq_true (by rw [← hlen]; omega)
    rw [a1, hk, decide_eq_true rfl, decide_eq_true a2, a3]
    rfl
  · cases h
end Go.AM.Seat
