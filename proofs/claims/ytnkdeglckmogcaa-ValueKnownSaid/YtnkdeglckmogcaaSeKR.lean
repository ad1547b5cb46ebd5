/- know: the definition's functions. -/
import Derived.Test.YtnkdeglckmogcaaSeFn
import Derived.Test.YtnkdeglckmogcaaSeT3
set_option linter.unusedVariables false
set_option maxRecDepth 100000
namespace Go.AM.Seat
open Go Go.AM Go.Proofs
abbrev live77 : List (Nat × Dir) := [(1, .keep), (4, .keep), (7, .keep), (8, .keep), (9, .keep)]
def eA (l : List Int) (i : Int) : Int := l.getD i.toNat (Ty.int IntKind.i64).dflt
def vs77 (xs : List Int) (t n i : Int) (r : Bool) : List AV := [.one (.int .i64 t), .one (.bool r), .one (.sl false I none xs), .one (.int .i64 n), .one (.int .i64 i)]
noncomputable abbrev lo77 (Λ : Lam AV) (K : AE → List AV → Option AV) (fuel : Nat) (vs : List AV) : Option AV := loopN (aexec tb (orc []) Λ ⟨17, 0, [(0, live77)]⟩ (loop1 F77).2 0) 17 0 live77 K fuel vs
theorem step77 (xs : List Int) (t n i : Int) (r : Bool) (Λ : Lam AV) (K : AE → List AV → Option AV) (fuel : Nat) : lo77 Λ K (fuel + 1) (vs77 xs t n i r) =
    bif decide (i < n) then bif inB i xs.length then bif eA xs i == t then K .ret (vs77 xs t n i true) else lo77 Λ K fuel (vs77 xs t n (IntKind.i64.wrap (i + 1)) r) else none else K (.exit 0) (vs77 xs t n i r) := by kernel_rfl
def Λ77 : Lam AV := fun cur vs K =>
  match cur, vs with
  | 0, [.one (.int .i64 t), .one (.bool r), .one (.sl false (.int .i64) none xs), .one (.int .i64 n), .one (.int .i64 0)] =>
    bif decide (n = xs.length) && decide (n ≤ 9223372036854775807) then
      (bif decide (idxN (fun i => eA xs i == t) xs.length 0 < 0) then K (.exit 0) (vs77 xs t n n r) else K .ret (vs77 xs t n (idxN (fun i => eA xs i == t) xs.length 0) true))
    else none
  | _, _ => none
theorem loop77 : LoopP tb (orc []) Λ77 ⟨17, 0, [(0, live77)]⟩ (loop1 F77) := by
  intro vs K out h
  have hcur : (loop1 F77).1 = 0 := by kernel_rfl
  rw [hcur] at h ⊢
  unfold Λ77 at h
  split at h
  · rename_i t r xs n _
    cases hc : (decide (n = xs.length) && decide (n ≤ 9223372036854775807)) with
    | false => rw [hc] at h; cases h
    | true =>
      rw [hc] at h
      simp only [cond_true] at h
      simp only [Bool.and_eq_true, decide_eq_true_eq] at hc
      obtain ⟨rfl, hmax⟩ := hc
      exact findN (ok := fun i => inB i xs.length) (ans := fun i => eA xs i == t) (F := fun fuel i => lo77 Λ77 K fuel (vs77 xs t xs.length i r)) (Kx := fun i => K (.exit 0) (vs77 xs t xs.length i r)) (Kr := fun i => K .ret (vs77 xs t xs.length i true)) hmax
        (fun fuel i => step77 xs t xs.length i r Λ77 K fuel) (fun j hj => inB_lt hj) h
  · cases h
theorem r77 (xs : List Int) (t : Int) : run (orc []) Λ77 [(0, live77)] F77 [.one (.sl false I none xs), .one (.int .i64 t)] [] =
    bif decide ((xs.length : Int) = xs.length) && decide ((xs.length : Int) ≤ 9223372036854775807) then
      bif decide (idxN (fun i => eA xs i == t) xs.length 0 < 0) then some (.one (.bool false)) else some (.one (.bool true)) else none := by kernel_rfl
def inL (xs : List Int) (t : Int) : Bool := xs.any (fun y => y == t)
theorem inL_iff {xs : List Int} {t : Int} : inL xs t = true ↔ t ∈ xs := by
  unfold inL
  rw [List.any_eq_true]
  exact ⟨fun ⟨x, h1, h2⟩ => by rw [← eq_of_beq h2]; exact h1, fun h => ⟨t, h, beq_self_eq_true t⟩⟩
def s77 : Sp := .fn [.v (.sl I), .v I] fun x => (true, .one (.bool (inL x.1 x.2)))
theorem len_wf {xs : List Int} (h : WF (.sl I) xs) : (xs.length : Int) ≤ 9223372036854775807 := by have := h.1; omega
theorem g77 : GoodS Try.prog N77 s77 := by
  refine good (OrcOk.nil _) H77 rfl (by kernel_rfl) Λ77 [(0, live77)] (oneLoop (p0 := loop1 F77) (by kernel_rfl) loop77) [.v (.sl I), .v I] (by decide) [] _ fun x r hw h => ?_
  obtain ⟨xs, t⟩ := x
  cases h
  refine (r77 xs t).trans ?_
  rw [decide_eq_true rfl, decide_eq_true (len_wf hw.1), anyN_not, show anyN (fun i => eA xs i == t) xs.length = inL xs t from anyN_list (xs := xs) (d := (Ty.int IntKind.i64).dflt) (p := fun y => y == t)]
  show _ = some (AV.one (SV.bool (inL xs t)))
  cases inL xs t <;> rfl
/-! ### follows -/
def Γ78 : Orc := orc [(N77, s77)]
abbrev live78 : List (Nat × Dir) := [(0, .keep), (1, .keep), (2, .keep), (6, .keep), (45, .keep), (46, .keep), (47, .keep)]
def vs78 (l : List Term.D) (set : List Int) (t n i : Int) (r : Bool) : List AV := [.one (.sl false Term none l), .one (.sl false I none set), .one (.int .i64 t), .one (.bool r), .one (.sl false I none set), .one (.int .i64 n), .one (.int .i64 i)]
noncomputable abbrev lo78 (Λ : Lam AV) (K : AE → List AV → Option AV) (fuel : Nat) (vs : List AV) : Option AV := loopN (aexec tb Γ78 Λ ⟨76, 0, [(0, live78)]⟩ (loop1 F78).2 0) 76 0 live78 K fuel vs
def tK (l : List Term.D) (i : Int) : Int := (l.getD i.toNat ((Ty.int IntKind.i64).pair ((Ty.int IntKind.i64).pair (Ty.int IntKind.i64))).dflt).1
def tA (l : List Term.D) (i : Int) : Int := (l.getD i.toNat ((Ty.int IntKind.i64).pair ((Ty.int IntKind.i64).pair (Ty.int IntKind.i64))).dflt).2.1
def tB (l : List Term.D) (i : Int) : Int := (l.getD i.toNat ((Ty.int IntKind.i64).pair ((Ty.int IntKind.i64).pair (Ty.int IntKind.i64))).dflt).2.2
def isO78 (l : List Term.D) (t k : Int) : Bool := bif tK l k == 5 then tB l k == t else false
def out78 (l : List Term.D) (set : List Int) (t k : Int) : Bool := bif isO78 l t k then inL set (tA l k) else false
theorem step78 (l : List Term.D) (set : List Int) (t n i : Int) (r : Bool) (Λ : Lam AV) (K : AE → List AV → Option AV) (fuel : Nat) : lo78 Λ K (fuel + 1) (vs78 l set t n i r) =
    bif decide (i < n) then bif inB i set.length then bif inB (eA set i) l.length then bif inB (eA set i) l.length || !boolBeq (tK l (eA set i) == 5) true then bif inB (eA set i) l.length || !boolBeq (isO78 l t (eA set i)) true then
      bif out78 l set t (eA set i) then K .ret (vs78 l set t n i true) else lo78 Λ K fuel (vs78 l set t n (IntKind.i64.wrap (i + 1)) r)
    else none else none else none else none else K (.exit 0) (vs78 l set t n i r) := by kernel_rfl
noncomputable def Λ78 : Lam AV := fun cur vs K =>
  match cur, vs with
  | 0, [.one (.sl false (.pair (.int .i64) (.pair (.int .i64) (.int .i64))) none l), .one (.sl false (.int .i64) none set), .one (.int .i64 t), .one (.bool r), .one (.sl false (.int .i64) none set'), .one (.int .i64 n), .one (.int .i64 0)] =>
    bif decide (n = set.length) && (decide (n ≤ 9223372036854775807) && (@decide (set' = set) (Classical.propDecidable _) && set.all fun k => inB k l.length)) then
      (bif decide (idxN (fun i => out78 l set t (eA set i)) set.length 0 < 0) then K (.exit 0) (vs78 l set t n n r) else K .ret (vs78 l set t n (idxN (fun i => out78 l set t (eA set i)) set.length 0) true))
    else none
  | _, _ => none
theorem loop78 : LoopP tb Γ78 Λ78 ⟨76, 0, [(0, live78)]⟩ (loop1 F78) := by
  intro vs K out h
  have hcur : (loop1 F78).1 = 0 := by kernel_rfl
  rw [hcur] at h ⊢
  unfold Λ78 at h
  split at h
  · rename_i l set t r set' n _
    cases hc : (decide (n = set.length) && (decide (n ≤ 9223372036854775807) && (@decide (set' = set) (Classical.propDecidable _) && set.all fun k => inB k l.length))) with
    | false => rw [hc] at h; cases h
    | true =>
      rw [hc] at h
      simp only [cond_true] at h
      simp only [Bool.and_eq_true] at hc
      obtain ⟨h1, h2, h3, hall⟩ := hc
      obtain rfl := of_decide_eq_true h1
      have hmax := of_decide_eq_true h2
      obtain rfl := @of_decide_eq_true _ (Classical.propDecidable _) h3
      refine findN (ok := fun i => inB i set'.length && inB (eA set' i) l.length) (ans := fun i => out78 l set' t (eA set' i)) (F := fun fuel i => lo78 Λ78 K fuel (vs78 l set' t set'.length i r)) (Kx := fun i => K (.exit 0) (vs78 l set' t set'.length i r)) (Kr := fun i => K .ret (vs78 l set' t set'.length i true)) hmax
        (fun fuel i => (step78 l set' t set'.length i r Λ78 K fuel).trans ?_) (fun j hj => ?_) h
      · cases inB i set'.length <;> cases inB (eA set' i) l.length <;> rfl
      · have : inB (eA set' j) l.length = true := List.all_eq_true.1 hall _ (by unfold eA; simp [hj])
        rw [inB_lt hj, this]; rfl
  · cases h
/-- It follows at once (but for what is wrapped). -/
def fst78 (l : List Term.D) (set : List Int) (t : Int) : Bool :=
  bif (bif (bif decide (tK l t ≥ 2) then decide (tK l t ≤ 4) else false) then inL set (tA l t) else false) then true else
    bif (bif tK l t == 5 then inL set (tA l t) else false) then inL set (tB l t) else false
noncomputable def cond78 (l : List Term.D) (set : List Int) : Bool := decide ((set.length : Int) = set.length) && (decide ((set.length : Int) ≤ 9223372036854775807) && (@decide (set = set) (Classical.propDecidable _) && set.all fun k => inB k l.length))
theorem r78 (l : List Term.D) (set : List Int) (t : Int) : run Γ78 Λ78 [(0, live78)] F78 [.one (.sl false Term none l), .one (.sl false I none set), .one (.int .i64 t)] [] =
    bif inB t l.length then bif fst78 l set t then some (.one (.bool true)) else bif cond78 l set then
      (bif decide (idxN (fun i => out78 l set t (eA set i)) set.length 0 < 0) then some (.one (.bool false)) else some (.one (.bool true)))
    else none else none := by kernel_rfl
def folR (l : List Term.D) (set : List Int) (t : Int) : Bool := bif fst78 l set t then true else set.any (out78 l set t)
def s78 : Sp := .fn [.v (.sl Term), .v (.sl I), .v I] fun x => (inB x.2.2 x.1.length && x.2.1.all fun k => inB k x.1.length, .one (.bool (folR x.1 x.2.1 x.2.2)))
theorem g78 : GoodS Try.prog N78 s78 := by
  refine good (.cons g77 (.nil _)) H78 rfl (by kernel_rfl) Λ78 [(0, live78)] (oneLoop (p0 := loop1 F78) (by kernel_rfl) loop78) [.v (.sl Term), .v (.sl I), .v I] (by decide) [] _ fun x r hw h => ?_
  obtain ⟨l, set, t⟩ := x
  simp only [Prod.mk.injEq, Bool.and_eq_true] at h
  obtain ⟨⟨h1, h2⟩, rfl⟩ := h
  refine (r78 l set t).trans ?_
  have hc : cond78 l set = true := by
    unfold cond78
    rw [decide_eq_true rfl, decide_eq_true (len_wf hw.2.1), h2, @decide_eq_true _ (Classical.propDecidable _) rfl]; rfl
  rw [h1, hc, anyN_not, show anyN (fun i => out78 l set t (eA set i)) set.length = set.any (out78 l set t) from anyN_list (xs := set) (d := (Ty.int IntKind.i64).dflt) (p := out78 l set t)]
  show _ = some (AV.one (SV.bool (folR l set t)))
  unfold folR
  cases fst78 l set t <;> cases set.any (out78 l set t) <;> rfl
/-! ### places -/

end Go.AM.Seat
