/- know: the definition's functions, and the laws' own. -/
import Derived.Test.YtnkdeglckmogcaaSeKR
import Derived.Test.YtnkdeglckmogcaaSeT9
set_option linter.unusedVariables false
set_option maxRecDepth 100000
namespace Go.AM.Seat
open Go Go.AM Go.Proofs
/-! ### places -/
def Γ75 : Orc := orc [(N51, s51)]
def odd75 (l : List Term.D) (k : Int) : Bool := bif decide (k < 0) then true else decide (k ≥ (l.length : Int))
abbrev live75 : List (Nat × Dir) := [(0, .keep), (4, .keep), (15, .keep), (16, .keep), (17, .keep)]
def vs75 (l : List Term.D) (xs : List Int) (r : Bool) (n i : Int) : List AV := [.one (.sl false Term none l), .one (.bool r), .one (.sl false I none xs), .one (.int .i64 n), .one (.int .i64 i)]
noncomputable abbrev lo75 (Λ : Lam AV) (K : AE → List AV → Option AV) (fuel : Nat) (vs : List AV) : Option AV := loopN (aexec tb Γ75 Λ ⟨30, 0, [(0, live75)]⟩ (loop1 F75).2 0) 30 0 live75 K fuel vs
theorem step75 (l : List Term.D) (xs : List Int) (r : Bool) (n i : Int) (Λ : Lam AV) (K : AE → List AV → Option AV) (fuel : Nat) : lo75 Λ K (fuel + 1) (vs75 l xs r n i) =
    bif decide (i < n) then bif inB i xs.length then bif odd75 l (eA xs i) then K .ret (vs75 l xs false n i) else lo75 Λ K fuel (vs75 l xs r n (IntKind.i64.wrap (i + 1))) else none else K (.exit 0) (vs75 l xs r n i) := by kernel_rfl
noncomputable def Λ75 : Lam AV := fun cur vs K =>
  match cur, vs with
  | 0, [.one (.sl false (.pair (.int .i64) (.pair (.int .i64) (.int .i64))) none l), .one (.bool r), .one (.sl false (.int .i64) none xs), .one (.int .i64 n), .one (.int .i64 0)] =>
    bif decide (n = xs.length) && (decide (n ≤ 9223372036854775807)) then
      (bif decide (idxN (fun i => odd75 l (eA xs i)) (xs.length) 0 < 0) then K (.exit 0) (vs75 l xs r n n) else K .ret (vs75 l xs false n (idxN (fun i => odd75 l (eA xs i)) (xs.length) 0)))
    else none
  | _, _ => none
theorem loop75 : LoopP tb Γ75 Λ75 ⟨30, 0, [(0, live75)]⟩ (loop1 F75) := by
  intro vs K out h
  have hcur : (loop1 F75).1 = 0 := by kernel_rfl
  rw [hcur] at h ⊢
  unfold Λ75 at h
  split at h
  · rename_i l r xs n _
    cases hc : (decide (n = xs.length) && (decide (n ≤ 9223372036854775807))) with
    | false => rw [hc] at h; cases h
    | true =>
      rw [hc] at h
      simp only [cond_true] at h
      rw [Bool.and_eq_true] at hc
      obtain ⟨h1, h2⟩ := hc
      have h1 := of_decide_eq_true h1
      have hmax := of_decide_eq_true h2
      subst h1
      refine findN (ok := fun i => inB i xs.length) (ans := fun i => odd75 l (eA xs i)) (F := fun fuel i => lo75 Λ75 K fuel (vs75 l xs r (xs.length) i)) (Kx := fun i => K (.exit 0) (vs75 l xs r (xs.length) i)) (Kr := fun i => K .ret (vs75 l xs false (xs.length) i)) hmax
        (fun fuel i => (step75 l xs r (xs.length) i Λ75 K fuel).trans ?_) (fun j hj => ?_) h
      · rfl
      · exact inB_lt hj
  · cases h
theorem r75 (l : List Term.D) (xs : List Int) : run Γ75 Λ75 [(0, live75)] F75 [.one (.sl false Term none l), .one (.sl false I none xs)] [] =
    bif (bif checkR l != 0 then true else decide ((xs.length : Int) > 65536)) then some (.one (.bool false)) else bif decide ((xs.length : Int) = xs.length) && decide ((xs.length : Int) ≤ 9223372036854775807) then
      (bif decide (idxN (fun i => odd75 l (eA xs i)) xs.length 0 < 0) then some (.one (.bool true)) else some (.one (.bool false)))
    else none := by kernel_rfl
def placesR (l : List Term.D) (xs : List Int) : Bool := bif (bif checkR l != 0 then true else decide ((xs.length : Int) > 65536)) then false else !xs.any (odd75 l)
def s75 : Sp := .fn [.v (.sl Term), .v (.sl I)] fun x => (true, .one (.bool (placesR x.1 x.2)))
theorem g75 : GoodS Try.prog N75 s75 := by
  refine good (.cons g51 (.nil _)) H75 rfl (by kernel_rfl) Λ75 [(0, live75)] (oneLoop (p0 := loop1 F75) (by kernel_rfl) loop75) [.v (.sl Term), .v (.sl I)] (by decide) [] _ fun x r hw h => ?_
  obtain ⟨l, xs⟩ := x
  cases h
  refine (r75 l xs).trans ?_
  rw [decide_eq_true rfl, decide_eq_true (len_wf hw.2), anyN_not, show anyN (fun i => odd75 l (eA xs i)) xs.length = xs.any (odd75 l) from anyN_list (xs := xs) (d := (Ty.int IntKind.i64).dflt) (p := odd75 l)]
  show _ = some (AV.one (SV.bool (placesR l xs)))
  unfold placesR
  cases (bif checkR l != 0 then true else decide ((xs.length : Int) > 65536)) <;> cases xs.any (odd75 l) <;> rfl
/-! ### SameInts -/
abbrev live31k : List (Nat × Dir) := [(0, .keep), (1, .keep), (4, .keep), (12, .keep), (13, .keep)]
def vs31k (a b : List Int) (r : Bool) (n i : Int) : List AV := [.one (.sl false I none a), .one (.sl false I none b), .one (.bool r), .one (.int .i64 n), .one (.int .i64 i)]
noncomputable abbrev lo31k (Λ : Lam AV) (K : AE → List AV → Option AV) (fuel : Nat) (vs : List AV) : Option AV := loopN (aexec tb (orc []) Λ ⟨26, 0, [(0, live31k)]⟩ (loop1 F31).2 0) 26 0 live31k K fuel vs
theorem step31k (a b : List Int) (r : Bool) (n i : Int) (Λ : Lam AV) (K : AE → List AV → Option AV) (fuel : Nat) : lo31k Λ K (fuel + 1) (vs31k a b r n i) =
    bif decide (i < n) then bif inB i a.length then bif inB i b.length then bif eA a i != eA b i then K .ret (vs31k a b false n i) else lo31k Λ K fuel (vs31k a b r n (IntKind.i64.wrap (i + 1))) else none else none else K (.exit 0) (vs31k a b r n i) := by kernel_rfl
noncomputable def Λ31k : Lam AV := fun cur vs K =>
  match cur, vs with
  | 0, [.one (.sl false (.int .i64) none a), .one (.sl false (.int .i64) none b), .one (.bool r), .one (.int .i64 n), .one (.int .i64 0)] =>
    bif decide (n = a.length) && (decide (n ≤ 9223372036854775807) && decide (a.length = b.length)) then
      (bif decide (idxN (fun i => eA a i != eA b i) (a.length) 0 < 0) then K (.exit 0) (vs31k a b r n n) else K .ret (vs31k a b false n (idxN (fun i => eA a i != eA b i) (a.length) 0)))
    else none
  | _, _ => none
theorem loop31k : LoopP tb (orc []) Λ31k ⟨26, 0, [(0, live31k)]⟩ (loop1 F31) := by
  intro vs K out h
  have hcur : (loop1 F31).1 = 0 := by kernel_rfl
  rw [hcur] at h ⊢
  unfold Λ31k at h
  split at h
  · rename_i a b r n _
    cases hc : (decide (n = a.length) && (decide (n ≤ 9223372036854775807) && decide (a.length = b.length))) with
    | false => rw [hc] at h; cases h
    | true =>
      rw [hc] at h
      simp only [cond_true] at h
      rw [Bool.and_eq_true, Bool.and_eq_true] at hc
      obtain ⟨h1, h2, hall⟩ := hc
      have h1 := of_decide_eq_true h1
      have hmax := of_decide_eq_true h2
      subst h1
      refine findN (ok := fun i => inB i a.length && inB i b.length) (ans := fun i => eA a i != eA b i) (F := fun fuel i => lo31k Λ31k K fuel (vs31k a b r (a.length) i)) (Kx := fun i => K (.exit 0) (vs31k a b r (a.length) i)) (Kr := fun i => K .ret (vs31k a b false (a.length) i)) hmax
        (fun fuel i => (step31k a b r (a.length) i Λ31k K fuel).trans ?_) (fun j hj => ?_) h
      · cases inB i a.length <;> cases inB i b.length <;> rfl
      · rw [inB_lt hj, inB_lt (by rw [← of_decide_eq_true hall]; exact hj)]; rfl
  · cases h
theorem r31k (a b : List Int) : run (orc []) Λ31k [(0, live31k)] F31 [.one (.sl false I none a), .one (.sl false I none b)] [] =
    bif ((a.length : Int) != (b.length : Int)) then some (.one (.bool false)) else bif decide ((a.length : Int) = a.length) && (decide ((a.length : Int) ≤ 9223372036854775807) && decide (a.length = b.length)) then
      (bif decide (idxN (fun i => eA a i != eA b i) a.length 0 < 0) then some (.one (.bool true)) else some (.one (.bool false)))
    else none := by kernel_rfl
noncomputable def s31k : Sp := .fn [.v (.sl I), .v (.sl I)] fun x => (true, .one (.bool (@decide (x.1 = x.2) (Classical.propDecidable _))))
theorem g31k : GoodS Try.prog N31 s31k := by
  refine good (OrcOk.nil _) H31 rfl (by kernel_rfl) Λ31k [(0, live31k)] (oneLoop (p0 := loop1 F31) (by kernel_rfl) loop31k) [.v (.sl I), .v (.sl I)] (by decide) [] _ fun x r hw h => ?_
  obtain ⟨a, b⟩ := x
  cases h
  refine (r31k a b).trans ?_
  show _ = some (AV.one (SV.bool (@decide (a = b) (Classical.propDecidable _))))
  cases hl : ((a.length : Int) != (b.length : Int)) with
  | true =>
    have hne : ¬ a = b := fun e => by rw [e] at hl; simp at hl
    rw [@decide_eq_false _ (Classical.propDecidable _) hne]; rfl
  | false =>
    have hlen : a.length = b.length := by have : (a.length : Int) = b.length := by simpa using hl
                                          omega
    rw [decide_eq_true rfl, decide_eq_true (len_wf hw.1), decide_eq_true hlen, anyN_not]
    cases ha : anyN (fun i => eA a i != eA b i) a.length with
    | true =>
      obtain ⟨k, hk, hx⟩ := anyN_iff.1 ha
      have hne : ¬ a = b := fun e => by rw [e] at hx; simp at hx
      rw [@decide_eq_false _ (Classical.propDecidable _) hne]; rfl
    | false =>
      have he : a = b := by
        apply List.ext_getElem hlen
        intro k h1 h2
        rcases Classical.em (a[k] = b[k]) with e | e
        · exact e
        · exfalso
          have : anyN (fun i => eA a i != eA b i) a.length = true := anyN_iff.2 ⟨k, h1, by unfold eA; simpa [h1, h2] using e⟩
          rw [this] at ha; cases ha
      rw [@decide_eq_true _ (Classical.propDecidable _) he]; rfl
/-! ### Few, few -/
def fewI (x : List Int) : Bool := bif decide ((x.length : Int) ≤ 60) then true else bif decide ((x.length : Int) > 65536) then decide ((x.length : Int) < 65546) else false
theorem r60 (x : List Int) : run (orc []) noL [] F60 [.one (.sl false I none x)] [] = some (.one (.bool (fewI x))) := by kernel_rfl
def s60 : Sp := .fn [.v (.sl I)] fun x => (true, .one (.bool (fewI x)))
theorem g60 : GoodS Try.prog N60 s60 := by
  refine good (OrcOk.nil _) H60 rfl (by kernel_rfl) noL [] (noLoops (by kernel_rfl)) [.v (.sl I)] (by decide) [] _ fun x r hw h => ?_
  cases h
  exact r60 x
def Γ29 : Orc := orc [(N60, s60)]
def rA (l : List (List Int)) (i : Int) : List Int := l.getD i.toNat (Ty.int IntKind.i64).sl.dflt
abbrev live29 : List (Nat × Dir) := [(0, .keep), (4, .keep), (7, .keep), (8, .keep), (9, .keep)]
def vs29 (l : List Term.D) (xs : List (List Int)) (r : Bool) (n i : Int) : List AV := [.one (.sl false Term none l), .one (.bool r), .one (.sl false (.sl I) none xs), .one (.int .i64 n), .one (.int .i64 i)]
noncomputable abbrev lo29 (Λ : Lam AV) (K : AE → List AV → Option AV) (fuel : Nat) (vs : List AV) : Option AV := loopN (aexec tb Γ29 Λ ⟨20, 0, [(0, live29)]⟩ (loop1 F29).2 0) 20 0 live29 K fuel vs
theorem step29 (l : List Term.D) (xs : List (List Int)) (r : Bool) (n i : Int) (Λ : Lam AV) (K : AE → List AV → Option AV) (fuel : Nat) : lo29 Λ K (fuel + 1) (vs29 l xs r n i) =
    bif decide (i < n) then bif inB i xs.length then bif !fewI (rA xs i) then K .ret (vs29 l xs false n i) else lo29 Λ K fuel (vs29 l xs r n (IntKind.i64.wrap (i + 1))) else none else K (.exit 0) (vs29 l xs r n i) := by kernel_rfl
noncomputable def Λ29 : Lam AV := fun cur vs K =>
  match cur, vs with
  | 0, [.one (.sl false (.pair (.int .i64) (.pair (.int .i64) (.int .i64))) none l), .one (.bool r), .one (.sl false (.sl (.int .i64)) none xs), .one (.int .i64 n), .one (.int .i64 0)] =>
    bif decide (n = xs.length) && (decide (n ≤ 9223372036854775807)) then
      (bif decide (idxN (fun i => !fewI (rA xs i)) (xs.length) 0 < 0) then K (.exit 0) (vs29 l xs r n n) else K .ret (vs29 l xs false n (idxN (fun i => !fewI (rA xs i)) (xs.length) 0)))
    else none
  | _, _ => none
theorem loop29 : LoopP tb Γ29 Λ29 ⟨20, 0, [(0, live29)]⟩ (loop1 F29) := by
  intro vs K out h
  have hcur : (loop1 F29).1 = 0 := by kernel_rfl
  rw [hcur] at h ⊢
  unfold Λ29 at h
  split at h
  · rename_i l r xs n _
    cases hc : (decide (n = xs.length) && (decide (n ≤ 9223372036854775807))) with
    | false => rw [hc] at h; cases h
    | true =>
      rw [hc] at h
      simp only [cond_true] at h
      rw [Bool.and_eq_true] at hc
      obtain ⟨h1, h2⟩ := hc
      have h1 := of_decide_eq_true h1
      have hmax := of_decide_eq_true h2
      subst h1
      refine findN (ok := fun i => inB i xs.length) (ans := fun i => !fewI (rA xs i)) (F := fun fuel i => lo29 Λ29 K fuel (vs29 l xs r (xs.length) i)) (Kx := fun i => K (.exit 0) (vs29 l xs r (xs.length) i)) (Kr := fun i => K .ret (vs29 l xs false (xs.length) i)) hmax
        (fun fuel i => (step29 l xs r (xs.length) i Λ29 K fuel).trans ?_) (fun j hj => ?_) h
      · rfl
      · exact inB_lt hj
  · cases h
theorem r29 (l : List Term.D) (xs : List (List Int)) : run Γ29 Λ29 [(0, live29)] F29 [.one (.sl false Term none l), .one (.sl false (.sl I) none xs)] [] =
    bif decide ((xs.length : Int) = xs.length) && decide ((xs.length : Int) ≤ 9223372036854775807) then
      (bif decide (idxN (fun i => !fewI (rA xs i)) xs.length 0 < 0) then some (.one (.bool (decide ((l.length : Int) ≤ 40)))) else some (.one (.bool false)))
    else none := by kernel_rfl
def fewK (l : List Term.D) (xs : List (List Int)) : Bool := bif xs.any (fun x => !fewI x) then false else decide ((l.length : Int) ≤ 40)
def s29 : Sp := .fn [.v (.sl Term), .v (.sl (.sl I))] fun x => (true, .one (.bool (fewK x.1 x.2)))
theorem g29 : GoodS Try.prog N29 s29 := by
  refine good (.cons g60 (.nil _)) H29 rfl (by kernel_rfl) Λ29 [(0, live29)] (oneLoop (p0 := loop1 F29) (by kernel_rfl) loop29) [.v (.sl Term), .v (.sl (.sl I))] (by decide) [] _ fun x r hw h => ?_
  obtain ⟨l, xs⟩ := x
  cases h
  refine (r29 l xs).trans ?_
  have hmax : (xs.length : Int) ≤ 9223372036854775807 := by have : xs.length ≤ 9223372036854775807 := hw.2.1; omega
  rw [decide_eq_true rfl, decide_eq_true hmax, anyN_not, show anyN (fun i => !fewI (rA xs i)) xs.length = xs.any (fun x => !fewI x) from anyN_list (xs := xs) (d := (Ty.int IntKind.i64).sl.dflt) (p := fun x => !fewI x)]
  show _ = some (AV.one (SV.bool (fewK l xs)))
  unfold fewK
  cases xs.any (fun x => !fewI x) <;> rfl
end Go.AM.Seat
