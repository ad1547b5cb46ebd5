/- know.check. -/
import Derived.Test.YtnkdeglckmogcaaSeT3
import Derived.Test.YtnkdeglckmogcaaSeCl
set_option linter.unusedVariables false
set_option maxRecDepth 100000
namespace Go.AM.Seat
open Go Go.AM Go.Proofs
def oddI (l : List Term.D) (i : Int) : Bool := bif decide (i < 0) then true else decide (i ≥ (l.length : Int))
def q96 (l : List Term.D) : CPr := (fun _ => true, oddI l)
theorem r96 (k : Int) (l : List Term.D) : run (orc []) noL [] F96 [.one (.int .i64 k), .one (.rp false (.sl Term) l 0)] [] = some (.one (.bool (oddI l k))) := by kernel_rfl
def s96 : Sp := .fn [.v I, .raw] fun x => match x.2 with
  | .one (.rp false (.sl (.pair (.int .i64) (.pair (.int .i64) (.int .i64)))) l 0) => (true, .one (.bool (oddI l x.1)))
  | _ => (false, AV.junk)
theorem g96 : GoodS Try.prog N96 s96 := by
  refine good (OrcOk.nil _) H96 rfl (by kernel_rfl) noL [] (noLoops (by kernel_rfl)) [.v I, .raw] (by decide) [] _ fun x r hw e => ?_
  obtain ⟨k, a⟩ := x
  simp only at e
  split at e
  · rename_i l
    cases e
    exact r96 k l
  · cases e
def clK (c : AV) : Option CPr :=
  match c with
  | .one (.fn f [.ptrD false (.sl (.pair (.int .i64) (.pair (.int .i64) (.int .i64)))) l]) => bif Nat.beq f N96 then some (q96 l) else none
  | _ => none
theorem clK_some {c : AV} {q : CPr} (h : clK c = some q) : ∃ l, c = .one (.fn N96 [.ptrD false (.sl Term) l]) ∧ q = q96 l := by
  unfold clK at h
  split at h
  · rename_i f l
    cases hf : Nat.beq f N96 with
    | false => rw [hf] at h; cases h
    | true =>
      rw [hf] at h
      cases h
      exact ⟨l, by rw [Nat.eq_of_beq_eq_true hf], rfl⟩
  · cases h
def ΓcK : Orc := orc [(N96, s96)]
theorem stepK (c : AV) (q : CPr) (h : clK c = some q) : StepC ΓcK c q := by
  obtain ⟨l, rfl, rfl⟩ := clK_some h
  intro Λ f nl xs r n i K fuel
  kernel_rfl
theorem runK1 (c : AV) (q : CPr) (h : clK c = some q) : RunC ΓcK clK c q := by
  obtain ⟨l, rfl, rfl⟩ := clK_some h
  intro xs
  kernel_rfl
theorem g101K : GoodS Try.prog N101 (s101c clK) := g101c (.cons g96 (.nil _)) rfl stepK runK1
theorem runK2 (c : AV) (q : CPr) (h : clK c = some q) : RunC2 clK c q := by
  obtain ⟨l, rfl, rfl⟩ := clK_some h
  intro xs
  kernel_rfl
theorem g67K : GoodS Try.prog N67 (s67c clK) := g67c g101K runK2
def Γ61 : Orc := orc [(N67, s67c clK), (N49, s49)]
theorem Γ61ok : OrcOk Try.prog Γ61 := .cons g67K (.cons g49 (.nil _))
abbrev live61 : List (Nat × Dir) := [(2, .keep), (4, .keep), (5, .keep), (9, .keep), (10, .keep), (11, .keep)]
def vs61 (l : List Term.D) (e : Int) (at' : List (List Int)) (n i : Int) : List AV := [.own [.sl false Term none l], .one (.int .i64 e), .one (.fn N96 [.ref 2 0]), .one (.sl false (.sl I) none at'), .one (.int .i64 n), .one (.int .i64 i)]
noncomputable abbrev lo61 (Λ : Lam AV) (K : AE → List AV → Option AV) (fuel : Nat) (vs : List AV) : Option AV := loopN (aexec tb Γ61 Λ ⟨26, 0, [(0, live61)]⟩ (loop1 F61).2 0) 26 0 live61 K fuel vs
def rAt (l : List (List Int)) (i : Int) : List Int := l.getD i.toNat (Ty.int IntKind.i64).sl.dflt
def badAt (l : List Term.D) (x : List Int) : Bool := bif decide ((x.length : Int) > 65536) then true else x.any (q96 l).2
theorem step61 (l : List Term.D) (e : Int) (at' : List (List Int)) (n i : Int) (Λ : Lam AV) (K : AE → List AV → Option AV) (fuel : Nat) : lo61 Λ K (fuel + 1) (vs61 l e at' n i) =
    bif decide (i < n) then bif inB i at'.length then bif (rAt at' i).all (q96 l).1 || !boolBeq (decide (((rAt at' i).length : Int) > 65536)) false then
      bif badAt l (rAt at' i) then K .ret (vs61 l 1 at' n i) else lo61 Λ K fuel (vs61 l e at' n (IntKind.i64.wrap (i + 1)))
    else none else none else K (.exit 0) (vs61 l e at' n i) := by kernel_rfl
def idxR (p : List Int → Bool) : List (List Int) → Int → Int
  | [], _ => -1
  | x :: xs, i => bif p x then i else idxR p xs (i + 1)
theorem idxR_ge (p : List Int → Bool) : ∀ (xs : List (List Int)) (i : Int), 0 ≤ i → decide (idxR p xs i < 0) = !xs.any p := by
  intro xs
  induction xs with
  | nil => intro i _; rfl
  | cons x xs ih =>
    intro i hi
    rw [List.any_cons]
    rcases Bool.eq_false_or_eq_true (p x) with h | h
    · have e : idxR p (x :: xs) i = i := by rw [idxR, h]; rfl
      rw [e, h, Bool.true_or]; exact decide_eq_false (by omega)
    · have e : idxR p (x :: xs) i = idxR p xs (i + 1) := by rw [idxR, h]; rfl
      rw [e, h, Bool.false_or]; exact ih (i + 1) (by omega)
def Λ61 : Lam AV := fun cur vs K =>
  match cur, vs with
  | 0, [.own [.sl false (.pair (.int .i64) (.pair (.int .i64) (.int .i64))) none l], .one (.int .i64 e), .one (.fn f [.ref 2 0]), .one (.sl false (.sl (.int .i64)) none at'), .one (.int .i64 n), .one (.int .i64 0)] =>
    bif Nat.beq f N96 && (decide (n = at'.length) && decide (n ≤ 9223372036854775807)) then
      (bif decide (idxR (badAt l) at' 0 < 0) then K (.exit 0) (vs61 l e at' n n) else K .ret (vs61 l 1 at' n (idxR (badAt l) at' 0)))
    else none
  | _, _ => none
theorem rAt_drop {l : List (List Int)} {j : Nat} (h : j < l.length) : l.drop j = rAt l j :: l.drop (j + 1) := by
  rw [List.drop_eq_getElem_cons h]
  simp [rAt, h]
theorem loop61 : LoopP tb Γ61 Λ61 ⟨26, 0, [(0, live61)]⟩ (loop1 F61) := by
  intro vs K out h
  have hcur : (loop1 F61).1 = 0 := by kernel_rfl
  rw [hcur] at h ⊢
  unfold Λ61 at h
  split at h
  · rename_i l e f at' n _
    cases hc : (Nat.beq f N96 && (decide (n = at'.length) && decide (n ≤ 9223372036854775807))) with
    | false => rw [hc] at h; cases h
    | true =>
      rw [hc] at h
      simp only [cond_true] at h
      simp only [Bool.and_eq_true, decide_eq_true_eq] at hc
      obtain ⟨hf, rfl, hmax⟩ := hc
      obtain rfl := Nat.eq_of_beq_eq_true hf
      have key : ∀ (m j : Nat), j + m = at'.length → (bif decide (idxR (badAt l) (at'.drop j) j < 0) then K (.exit 0) (vs61 l e at' at'.length at'.length) else K .ret (vs61 l 1 at' at'.length (idxR (badAt l) (at'.drop j) j))) = some out →
          ∃ fuel, lo61 Λ61 K fuel (vs61 l e at' at'.length j) = some out := by
        intro m
        induction m with
        | zero =>
          intro j hj h
          obtain rfl : j = at'.length := by omega
          rw [List.drop_length] at h
          exact ⟨1, by rw [step61, nlt_dec]; exact h⟩
        | succ m ih =>
          intro j hj h
          have hlt : j < at'.length := by omega
          have ha : (rAt at' j).all (q96 l).1 = true := List.all_eq_true.2 fun _ _ => rfl
          rw [rAt_drop hlt, idxR] at h
          cases hp : badAt l (rAt at' j) with
          | true =>
            rw [hp] at h
            simp only [cond_true] at h
            rw [decide_eq_false (show ¬ ((j : Nat) : Int) < 0 by omega)] at h
            exact ⟨1, by rw [step61, lt_dec hlt, inB_lt hlt, ha, hp]; exact h⟩
          | false =>
            rw [hp] at h
            obtain ⟨fuel, hf⟩ := ih (j + 1) (by omega) h
            refine ⟨fuel + 1, ?_⟩
            rw [step61, lt_dec hlt, inB_lt hlt, ha, hp, wrap64 (n := (j : Int) + 1) (by omega) (by omega)]
            exact hf
      exact key at'.length 0 (by omega) h
  · cases h
theorem r61 (l : List Term.D) (at' : List (List Int)) : run Γ61 Λ61 [(0, live61)] F61 [.one (.sl false Term none l), .one (.sl false (.sl I) none at')] [] =
    bif Nat.beq N96 N96 && (decide ((at'.length : Int) = at'.length) && decide ((at'.length : Int) ≤ 9223372036854775807)) then
      (bif decide (idxR (badAt l) at' 0 < 0) then some (.one (.int .i64 (checkL l))) else some (.one (.int .i64 1)))
    else none := by kernel_rfl
def checkK (l : List Term.D) (at' : List (List Int)) : Int := bif at'.any (badAt l) then 1 else checkL l
def s61 : Sp := .fn [.v (.sl Term), .v (.sl (.sl I))] fun x => (true, .one (.int .i64 (checkK x.1 x.2)))
theorem g61 : GoodS Try.prog N61 s61 := by
  refine good Γ61ok H61 rfl (by kernel_rfl) Λ61 [(0, live61)] (oneLoop (p0 := loop1 F61) (by kernel_rfl) loop61) [.v (.sl Term), .v (.sl (.sl I))] (by decide) [] _ fun x r hw h => ?_
  obtain ⟨l, at'⟩ := x
  cases h
  refine (r61 l at').trans ?_
  have hmax : (at'.length : Int) ≤ 9223372036854775807 := by have : at'.length ≤ 9223372036854775807 := hw.2.1; omega
  rw [decide_eq_true hmax, decide_eq_true rfl, Nat.beq_refl, idxR_ge _ _ _ (Int.le_refl 0)]
  show _ = some (AV.one (SV.int .i64 (checkK l at')))
  unfold checkK
  cases at'.any (badAt l) <;> rfl
end Go.AM.Seat
