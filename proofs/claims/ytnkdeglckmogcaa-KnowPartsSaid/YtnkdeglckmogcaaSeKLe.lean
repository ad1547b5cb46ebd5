/- the laws of know: KnowLeast. -/
import Derived.Test.YtnkdeglckmogcaaSeKJo
import Derived.Test.YtnkdeglckmogcaaSeFn
set_option linter.unusedVariables false
set_option linter.unusedSimpArgs false
set_option maxRecDepth 100000
namespace Go.AM.Seat
open Go Go.AM Go.Proofs
noncomputable def Γ8 : Orc := orc [(N28, s28), (N29, s29), (N30, s30), (N31, s31k), (N33, s33)]
abbrev live8 : List (Nat × List (Nat × Dir)) := [
  (0, [(0, .keep), (1, .keep), (2, .keep), (6, .keep), (7, .keep), (8, .keep), (14, .keep), (80, .keep), (81, .keep), (82, .keep), (83, .keep)]),
  (2, [(0, .keep), (1, .keep), (2, .keep), (6, .keep), (7, .keep), (8, .keep), (14, .keep), (80, .keep), (91, .keep), (92, .keep), (93, .keep)]),
  (4, [(1, .keep), (6, .keep), (7, .keep), (8, .keep), (21, .keep), (118, .keep), (119, .keep), (120, .keep), (121, .keep)]),
  (6, [(6, .keep), (7, .keep), (8, .keep), (21, .keep), (118, .keep), (129, .keep), (130, .keep), (131, .keep)]),
  (8, [(6, .keep), (7, .keep), (21, .keep), (118, .keep), (142, .keep), (143, .keep), (144, .keep)])]
def va8 (l : List Term.D) (h st al : List Int) (r up : Bool) (b : List Bool) (n i : Int) : List AV := [.one (.sl false Term none l), .one (.sl false I none h), .one (.sl false I none st), .one (.bool r), .one (.bool up), .one (.sl true I none al), .one (.hot 80 none), .arr true .bool b, .one (.sl true I none al), .one (.int .i64 n), .one (.int .i64 i)]
def vb8 (l : List Term.D) (h st al : List Int) (r up : Bool) (b : List Bool) (n i : Int) : List AV := [.one (.sl false Term none l), .one (.sl false I none h), .one (.sl false I none st), .one (.bool r), .one (.bool up), .one (.sl true I none al), .one (.hot 80 none), .arr true .bool b, .one (.sl false I none h), .one (.int .i64 n), .one (.int .i64 i)]
def vc8 (h st al : List Int) (r up : Bool) (b : List Bool) (n i : Int) : List AV := [.one (.sl false I none h), .one (.bool r), .one (.bool up), .one (.sl true I none al), .one (.hot 118 none), .arr true .bool b, .one (.sl false I none st), .one (.int .i64 n), .one (.int .i64 i)]
def vd8 (h al : List Int) (r up : Bool) (b : List Bool) (n i : Int) : List AV := [.one (.bool r), .one (.bool up), .one (.sl true I none al), .one (.hot 118 none), .arr true .bool b, .one (.sl false I none h), .one (.int .i64 n), .one (.int .i64 i)]
def ve8 (al : List Int) (r up : Bool) (b : List Bool) (n i : Int) : List AV := [.one (.bool r), .one (.bool up), .one (.hot 118 none), .arr true .bool b, .one (.sl true I none al), .one (.int .i64 n), .one (.int .i64 i)]
noncomputable def lk8 (k : Nat) : Nat × Code := (loopsOf 0 (body F8)).getD k (0, .skip)
noncomputable abbrev lo8 (k c : Nat) (Λ : Lam AV) (K : AE → List AV → Option AV) (fuel : Nat) (vs : List AV) : Option AV := loopN (aexec tb Γ8 Λ ⟨155, 0, live8⟩ (lk8 k).2 c) 155 0 (Lay.get ⟨155, 0, live8⟩ c) K fuel vs
theorem stepa8 (l : List Term.D) (h st al : List Int) (r up : Bool) (b : List Bool) (n i : Int) (Λ : Lam AV) (K : AE → List AV → Option AV) (fuel : Nat) : lo8 0 0 Λ K (fuel + 1) (va8 l h st al r up b n i) =
    bif decide (i < n) then bif inB i al.length then bif inB (lA al i) b.length then lo8 0 0 Λ K fuel (va8 l h st al r up (mrk b (lA al i)) n (IntKind.i64.wrap (i + 1))) else none else none else K (.exit 0) (va8 l h st al r up b n i) := by kernel_rfl
theorem stepb8 (l : List Term.D) (h st al : List Int) (r up : Bool) (b : List Bool) (n i : Int) (Λ : Lam AV) (K : AE → List AV → Option AV) (fuel : Nat) : lo8 1 2 Λ K (fuel + 1) (vb8 l h st al r up b n i) =
    bif decide (i < n) then bif inB i h.length then bif inB (lA h i) b.length then bif !bA b (lA h i) then K .ret (vb8 l h st al false up b n i) else lo8 1 2 Λ K fuel (vb8 l h st al r up b n (IntKind.i64.wrap (i + 1))) else none else none else K (.exit 2) (vb8 l h st al r up b n i) := by kernel_rfl
theorem stepc8 (h st al : List Int) (r up : Bool) (b : List Bool) (n i : Int) (Λ : Lam AV) (K : AE → List AV → Option AV) (fuel : Nat) : lo8 2 4 Λ K (fuel + 1) (vc8 h st al r up b n i) =
    bif decide (i < n) then bif inB i st.length then bif inB (lA st i) b.length then lo8 2 4 Λ K fuel (vc8 h st al r up (mrk b (lA st i)) n (IntKind.i64.wrap (i + 1))) else none else none else K (.exit 4) (vc8 h st al r up b n i) := by kernel_rfl
theorem stepd8 (h al : List Int) (r up : Bool) (b : List Bool) (n i : Int) (Λ : Lam AV) (K : AE → List AV → Option AV) (fuel : Nat) : lo8 3 6 Λ K (fuel + 1) (vd8 h al r up b n i) =
    bif decide (i < n) then bif inB i h.length then bif inB (lA h i) b.length then bif !bA b (lA h i) then K .ret (vd8 h al up up b n i) else lo8 3 6 Λ K fuel (vd8 h al r up b n (IntKind.i64.wrap (i + 1))) else none else none else K (.exit 6) (vd8 h al r up b n i) := by kernel_rfl
theorem stepe8 (al : List Int) (r up : Bool) (b : List Bool) (n i : Int) (Λ : Lam AV) (K : AE → List AV → Option AV) (fuel : Nat) : lo8 4 8 Λ K (fuel + 1) (ve8 al r up b n i) =
    bif decide (i < n) then bif inB i al.length then bif inB (lA al i) b.length then bif !bA b (lA al i) then K .ret (ve8 al false up b n i) else lo8 4 8 Λ K fuel (ve8 al r up b n (IntKind.i64.wrap (i + 1))) else none else none else K (.exit 8) (ve8 al r up b n i) := by kernel_rfl
def gd8 (n : Int) (xs : List Int) (b : List Bool) : Bool := decide (n = xs.length) && (decide (n ≤ 9223372036854775807) && xs.all fun x => inB x b.length)
def nb8 (xs : List Int) (b : List Bool) : Int → Bool := fun i => !bA b (lA xs i)
noncomputable def Λ8a (vs : List AV) (K : AE → List AV → Option AV) : Option AV := match vs with
  | [.one (.sl false (.pair (.int .i64) (.pair (.int .i64) (.int .i64))) none l), .one (.sl false (.int .i64) none h), .one (.sl false (.int .i64) none st), .one (.bool r), .one (.bool up), .one (.sl true (.int .i64) none al), .one (.hot 80 none), .arr true .bool b, .one (.sl true (.int .i64) none al'), .one (.int .i64 n), .one (.int .i64 0)] =>
    bif gd8 n al b && @decide (al' = al) (Classical.propDecidable _) then K (.exit 0) (va8 l h st al r up (mrkL al b) n n) else none
  | _ => none
noncomputable def Λ8b (vs : List AV) (K : AE → List AV → Option AV) : Option AV := match vs with
  | [.one (.sl false (.pair (.int .i64) (.pair (.int .i64) (.int .i64))) none l), .one (.sl false (.int .i64) none h), .one (.sl false (.int .i64) none st), .one (.bool r), .one (.bool up), .one (.sl true (.int .i64) none al), .one (.hot 80 none), .arr true .bool b, .one (.sl false (.int .i64) none h'), .one (.int .i64 n), .one (.int .i64 0)] =>
    bif gd8 n h b && @decide (h' = h) (Classical.propDecidable _) then
      (bif decide (idxN (nb8 h b) h.length 0 < 0) then K (.exit 2) (vb8 l h st al r up b n n) else K .ret (vb8 l h st al false up b n (idxN (nb8 h b) h.length 0))) else none
  | _ => none
def Λ8c (vs : List AV) (K : AE → List AV → Option AV) : Option AV := match vs with
  | [.one (.sl false (.int .i64) none h), .one (.bool r), .one (.bool up), .one (.sl true (.int .i64) none al), .one (.hot 118 none), .arr true .bool b, .one (.sl false (.int .i64) none st), .one (.int .i64 n), .one (.int .i64 0)] =>
    bif gd8 n st b then K (.exit 4) (vc8 h st al r up (mrkL st b) n n) else none
  | _ => none
def Λ8d (vs : List AV) (K : AE → List AV → Option AV) : Option AV := match vs with
  | [.one (.bool r), .one (.bool up), .one (.sl true (.int .i64) none al), .one (.hot 118 none), .arr true .bool b, .one (.sl false (.int .i64) none h), .one (.int .i64 n), .one (.int .i64 0)] =>
    bif gd8 n h b then (bif decide (idxN (nb8 h b) h.length 0 < 0) then K (.exit 6) (vd8 h al r up b n n) else K .ret (vd8 h al up up b n (idxN (nb8 h b) h.length 0))) else none
  | _ => none
def Λ8e (vs : List AV) (K : AE → List AV → Option AV) : Option AV := match vs with
  | [.one (.bool r), .one (.bool up), .one (.hot 118 none), .arr true .bool b, .one (.sl true (.int .i64) none al), .one (.int .i64 n), .one (.int .i64 0)] =>
    bif gd8 n al b then (bif decide (idxN (nb8 al b) al.length 0 < 0) then K (.exit 8) (ve8 al r up b n n) else K .ret (ve8 al false up b n (idxN (nb8 al b) al.length 0))) else none
  | _ => none
noncomputable def Λ8 : Lam AV := fun cur vs K => match cur with
  | 0 => Λ8a vs K
  | 2 => Λ8b vs K
  | 4 => Λ8c vs K
  | 6 => Λ8d vs K
  | 8 => Λ8e vs K
  | _ => none
theorem gd8_of {n : Int} {xs : List Int} {b : List Bool} (h : gd8 n xs b = true) : n = xs.length ∧ (xs.length : Int) ≤ 9223372036854775807 ∧ (xs.all fun x => inB x b.length) = true := by
  unfold gd8 at h
  rw [Bool.and_eq_true, Bool.and_eq_true] at h
  have h1 := of_decide_eq_true h.1
  have h2 := of_decide_eq_true h.2.1
  exact ⟨h1, by omega, h.2.2⟩
theorem loopa8 : LoopP tb Γ8 Λ8 ⟨155, 0, live8⟩ (lk8 0) := by
  intro vs K out hE
  have hcur : (lk8 0).1 = 0 := by kernel_rfl
  rw [hcur] at hE ⊢
  replace hE : Λ8a vs K = some out := hE
  unfold Λ8a at hE
  split at hE
  · rename_i l h st r up al b al' n
    cases hc : (gd8 n al b && @decide (al' = al) (Classical.propDecidable _)) with
    | false => rw [hc] at hE; cases hE
    | true =>
      rw [hc] at hE
      simp only [cond_true] at hE
      rw [Bool.and_eq_true] at hc
      obtain ⟨hc, he⟩ := hc
      obtain rfl := (@of_decide_eq_true _ (Classical.propDecidable _) he).symm
      obtain ⟨h1, hmax, hall⟩ := gd8_of hc
      subst h1
      exact markN (xs := al) (F := fun fuel b i => lo8 0 0 Λ8 K fuel (va8 l h st al r up b al.length i)) (Kx := fun b i => K (.exit 0) (va8 l h st al r up b al.length i)) hmax (fun fuel b i => stepa8 l h st al r up b al.length i Λ8 K fuel) hall hE
  · cases hE
theorem loopb8 : LoopP tb Γ8 Λ8 ⟨155, 0, live8⟩ (lk8 1) := by
  intro vs K out hE
  have hcur : (lk8 1).1 = 2 := by kernel_rfl
  rw [hcur] at hE ⊢
  replace hE : Λ8b vs K = some out := hE
  unfold Λ8b at hE
  split at hE
  · rename_i l h st r up al b h' n
    cases hc : (gd8 n h b && @decide (h' = h) (Classical.propDecidable _)) with
    | false => rw [hc] at hE; cases hE
    | true =>
      rw [hc] at hE
      simp only [cond_true] at hE
      rw [Bool.and_eq_true] at hc
      obtain ⟨hc, he⟩ := hc
      obtain rfl := (@of_decide_eq_true _ (Classical.propDecidable _) he).symm
      obtain ⟨h1, hmax, hall⟩ := gd8_of hc
      subst h1
      refine findN (ok := fun i => inB i h.length && inB (lA h i) b.length) (ans := nb8 h b) (F := fun fuel i => lo8 1 2 Λ8 K fuel (vb8 l h st al r up b h.length i)) (Kx := fun i => K (.exit 2) (vb8 l h st al r up b h.length i)) (Kr := fun i => K .ret (vb8 l h st al false up b h.length i)) hmax
        (fun fuel i => (stepb8 l h st al r up b h.length i Λ8 K fuel).trans ?_) (fun j hj => ?_) hE
      · unfold nb8; cases inB i h.length <;> cases inB (lA h i) b.length <;> rfl
      · rw [inB_lt hj, List.all_eq_true.1 hall (lA h j) (by unfold lA; simp [hj])]; rfl
  · cases hE
theorem loopc8 : LoopP tb Γ8 Λ8 ⟨155, 0, live8⟩ (lk8 2) := by
  intro vs K out hE
  have hcur : (lk8 2).1 = 4 := by kernel_rfl
  rw [hcur] at hE ⊢
  replace hE : Λ8c vs K = some out := hE
  unfold Λ8c at hE
  split at hE
  · rename_i h r up al b st n
    cases hc : (gd8 n st b) with
    | false => rw [hc] at hE; cases hE
    | true =>
      rw [hc] at hE
      simp only [cond_true] at hE
      obtain ⟨h1, hmax, hall⟩ := gd8_of hc
      subst h1
      exact markN (xs := st) (F := fun fuel b i => lo8 2 4 Λ8 K fuel (vc8 h st al r up b st.length i)) (Kx := fun b i => K (.exit 4) (vc8 h st al r up b st.length i)) hmax (fun fuel b i => stepc8 h st al r up b st.length i Λ8 K fuel) hall hE
  · cases hE
theorem loopd8 : LoopP tb Γ8 Λ8 ⟨155, 0, live8⟩ (lk8 3) := by
  intro vs K out hE
  have hcur : (lk8 3).1 = 6 := by kernel_rfl
  rw [hcur] at hE ⊢
  replace hE : Λ8d vs K = some out := hE
  unfold Λ8d at hE
  split at hE
  · rename_i r up al b h n
    cases hc : (gd8 n h b) with
    | false => rw [hc] at hE; cases hE
    | true =>
      rw [hc] at hE
      simp only [cond_true] at hE
      obtain ⟨h1, hmax, hall⟩ := gd8_of hc
      subst h1
      refine findN (ok := fun i => inB i h.length && inB (lA h i) b.length) (ans := nb8 h b) (F := fun fuel i => lo8 3 6 Λ8 K fuel (vd8 h al r up b h.length i)) (Kx := fun i => K (.exit 6) (vd8 h al r up b h.length i)) (Kr := fun i => K .ret (vd8 h al up up b h.length i)) hmax
        (fun fuel i => (stepd8 h al r up b h.length i Λ8 K fuel).trans ?_) (fun j hj => ?_) hE
      · unfold nb8; cases inB i h.length <;> cases inB (lA h i) b.length <;> rfl
      · rw [inB_lt hj, List.all_eq_true.1 hall (lA h j) (by unfold lA; simp [hj])]; rfl
  · cases hE
theorem loope8 : LoopP tb Γ8 Λ8 ⟨155, 0, live8⟩ (lk8 4) := by
  intro vs K out hE
  have hcur : (lk8 4).1 = 8 := by kernel_rfl
  rw [hcur] at hE ⊢
  replace hE : Λ8e vs K = some out := hE
  unfold Λ8e at hE
  split at hE
  · rename_i r up b al n
    cases hc : (gd8 n al b) with
    | false => rw [hc] at hE; cases hE
    | true =>
      rw [hc] at hE
      simp only [cond_true] at hE
      obtain ⟨h1, hmax, hall⟩ := gd8_of hc
      subst h1
      refine findN (ok := fun i => inB i al.length && inB (lA al i) b.length) (ans := nb8 al b) (F := fun fuel i => lo8 4 8 Λ8 K fuel (ve8 al r up b al.length i)) (Kx := fun i => K (.exit 8) (ve8 al r up b al.length i)) (Kr := fun i => K .ret (ve8 al false up b al.length i)) hmax
        (fun fuel i => (stepe8 al r up b al.length i Λ8 K fuel).trans ?_) (fun j hj => ?_) hE
      · unfold nb8; cases inB i al.length <;> cases inB (lA al i) b.length <;> rfl
      · rw [inB_lt hj, List.all_eq_true.1 hall (lA al j) (by unfold lA; simp [hj])]; rfl
  · cases hE
def z8 (l : List Term.D) : List Bool := List.replicate (Int.toNat (l.length : Int)) Ty.bool.dflt
def mk8 (l : List Term.D) : Bool := decide ((0 : Int) ≤ l.length) && decide ((l.length : Int) ≤ l.length) && decide (((1 : Nat) : Int) * (l.length : Int) ≤ 281474976710656)
noncomputable def ge8 (xs : List Int) : Bool := @decide (xs = xs) (Classical.propDecidable _)
theorem r8 (l : List Term.D) (h m : List Int) : run Γ8 Λ8 live8 F8 [.one (.sl false Term none l), .one (.sl false I none h), .one (.sl false I none m)] [] =
    bif !fewK l [h, m] then some (.one (.bool true)) else bif (allK l h).2 != 0 then some (.one (.bool (((allK l h).1.length : Int) == 0))) else
    bif (bif (bif (bif (shutK l (allK l h).1).2 != 0 then true else (allK l (allK l h).1).2 != 0) then true else !(shutK l (allK l h).1).1) then true else !(@decide ((allK l (allK l h).1).1 = (allK l h).1) (Classical.propDecidable _))) then some (.one (.bool false)) else
    bif mk8 l then bif gd8 ((allK l h).1.length : Int) (allK l h).1 (z8 l) && ge8 (allK l h).1 then bif gd8 (h.length : Int) h (mrkL (allK l h).1 (z8 l)) && ge8 h then
      bif decide (idxN (nb8 h (mrkL (allK l h).1 (z8 l))) h.length 0 < 0) then
        bif (bif (shutK l m).2 != 0 then true else !(shutK l m).1) then some (.one (.bool true)) else
        bif mk8 l then bif gd8 (m.length : Int) m (z8 l) then bif gd8 (h.length : Int) h (mrkL m (z8 l)) then
          bif decide (idxN (nb8 h (mrkL m (z8 l))) h.length 0 < 0) then
            bif gd8 ((allK l h).1.length : Int) (allK l h).1 (mrkL m (z8 l)) then
              bif decide (idxN (nb8 (allK l h).1 (mrkL m (z8 l))) (allK l h).1.length 0 < 0) then some (.one (.bool true)) else some (.one (.bool false))
            else none
          else some (.one (.bool true))
        else none else none else none
      else some (.one (.bool false))
    else none else none else none := by kernel_rfl
theorem shut_err {l : List Term.D} {h : List Int} (he : (shutK l h).2 = 0) : OkP l h ∧ GoodL l := by
  refine checkK_one.1 ?_
  unfold shutK at he
  rcases checkK_cases l [h] with e | e
  · exact e
  · rw [e] at he; cases he
theorem shut_of {l : List Term.D} {h : List Int} (hh : OkP l h) (hg : GoodL l) : (shutK l h).2 = 0 ∧ ((shutK l h).1 = true ↔ ShutP l h) := by
  have e : shutK l h = (!h.any (not33 l (useL l) (kn0 l h)), 0) := by unfold shutK; rw [checkK_one.2 ⟨hh, hg⟩]; rfl
  rw [e]; exact ⟨rfl, shut_iff hg hh⟩
theorem nb_none {xs : List Int} {b : List Bool} : decide (idxN (nb8 xs b) xs.length 0 < 0) = true ↔ ∀ x ∈ xs, bA b x = true := by
  rw [anyN_not, Bool.not_eq_true']
  constructor
  · intro h x hx
    obtain ⟨k, hk, rfl⟩ := List.getElem_of_mem hx
    cases hb : bA b xs[k] with
    | true => rfl
    | false =>
      have : anyN (nb8 xs b) xs.length = true := anyN_iff.2 ⟨k, hk, by unfold nb8 lA; simp [hk, hb]⟩
      rw [this] at h; cases h
  · intro h
    cases ha : anyN (nb8 xs b) xs.length with
    | false => rfl
    | true =>
      obtain ⟨k, hk, hx⟩ := anyN_iff.1 ha
      have := h xs[k] (List.getElem_mem hk)
      unfold nb8 lA at hx
      simp [hk, this] at hx
theorem gd8_ok {l : List Term.D} {xs ys : List Int} (hx : OkP l xs) : gd8 (xs.length : Int) xs (mrkL ys (z8 l)) = true := by
  unfold gd8
  have := hx.1
  rw [decide_eq_true rfl, decide_eq_true (show (xs.length : Int) ≤ 9223372036854775807 by omega), Bool.true_and, Bool.true_and]
  refine List.all_eq_true.2 fun x hm => ?_
  rw [mrkL_len]
  unfold z8
  rw [List.length_replicate]
  exact inB_iff.2 (hx.2 x hm)
theorem z8_len (l : List Term.D) : (z8 l).length = l.length := by unfold z8; simp
theorem z8_at (l : List Term.D) (y : Int) : bA (z8 l) y = false := mrk_none
theorem mk8_ok {l : List Term.D} (hg : GoodL l) : mk8 l = true := by
  unfold mk8
  have := hg.1
  rw [decide_eq_true (show (0 : Int) ≤ l.length by omega), decide_eq_true (show (l.length : Int) ≤ l.length by omega), decide_eq_true (show ((1 : Nat) : Int) * (l.length : Int) ≤ 281474976710656 by omega)]; rfl
theorem known_okp {l : List Term.D} {h : List Int} (hh : OkP l h) (hg : GoodL l) : OkP l (knownL l h) := ⟨known_len hh hg, fun x hx => ((known_mem hh hg x).1 hx).rng hg hh.2⟩
theorem good8 : ∀ x, Good Try.prog N8 (encA [.v (.sl Term), .v (.sl I), .v (.sl I)] x) (.one (.bool true)) := by
  intro x
  have g : GoodS Try.prog N8 (.fn [.v (.sl Term), .v (.sl I), .v (.sl I)] fun _ => (true, .one (.bool true))) := by
    refine good (.cons g28 (.cons g29 (.cons g30 (.cons g31k (.cons g33 (.nil _)))))) H8 rfl (by kernel_rfl) Λ8 live8 (fun p hp => ?_) [.v (.sl Term), .v (.sl I), .v (.sl I)] (by decide) [] _ fun x r hw e => ?_
    · have hl : loopsOf 0 (body F8) = [lk8 0, lk8 1, lk8 2, lk8 3, lk8 4] := by kernel_rfl
      rw [hl] at hp
      simp only [List.mem_cons, List.not_mem_nil, or_false] at hp
      rcases hp with rfl | rfl | rfl | rfl | rfl
      · exact loopa8
      · exact loopb8
      · exact loopc8
      · exact loopd8
      · exact loope8
    obtain ⟨l, h, m⟩ := x
    cases e
    refine (r8 l h m).trans ?_
    cases hf : fewK l [h, m] with
    | false => rfl
    | true =>
      simp only [Bool.not_true, cond_false]
      cases e1 : (allK l h).2 != 0 with
      | true =>
        have : (allK l h).1 = [] := by
          unfold allK at e1 ⊢
          cases hc : checkK l [h] != 0 with
          | true => rfl
          | false => rw [hc] at e1; cases e1
        simp only [cond_true]
        rw [this]; rfl
      | false =>
        obtain ⟨hh, hg⟩ := allK_ok (l := l) (h := h) (by simpa using e1)
        have hk := known_okp hh hg
        obtain ⟨s1, s2⟩ := shut_of hk hg
        have hsh : ShutP l (knownL l h) := fun x hx => (known_mem hh hg x).2 (Der.fol (hx.mono fun y hy => (known_mem hh hg y).1 hy))
        have hkk : knownL l (knownL l h) = knownL l h := asc_ext (known_asc hk hg) (known_asc hh hg) fun x => by
          rw [known_mem hk hg]
          exact ⟨fun H => (known_mem hh hg x).2 (Der.least (S := Der l h) (fun y hy => (known_mem hh hg y).1 hy) (fun y hy => Der.fol hy) x H), fun H => .base H⟩
        rw [allK_of hh hg]
        simp only [cond_false]
        rw [allK_of hk hg, s1, s2.2 hsh, hkk, @decide_eq_true (knownL l h = knownL l h) (Classical.propDecidable _) rfl]
        simp only [bne_self_eq_false, cond_false, Bool.not_true]
        have hge : ∀ xs : List Int, ge8 xs = true := fun xs => @decide_eq_true _ (Classical.propDecidable _) rfl
        have ga : gd8 ((knownL l h).length : Int) (knownL l h) (z8 l) = true := gd8_ok (ys := []) hk
        have hb1 : decide (idxN (nb8 h (mrkL (knownL l h) (z8 l))) h.length 0 < 0) = true := nb_none.2 fun x hx => by
          have hI := hh.2 x hx
          exact (mrkL_at (knownL l h) (z8 l) (fun y hy => by rw [z8_len]; exact hk.2 y hy) x hI.1).2 (.inr ((known_mem hh hg x).2 (.base hx)))
        rw [mk8_ok hg, ga, hge, gd8_ok hh, hge, hb1]
        simp only [Bool.and_self, cond_true]
        cases e2 : (shutK l m).2 != 0 with
        | true => rfl
        | false =>
          obtain ⟨hm, _⟩ := shut_err (l := l) (h := m) (by simpa using e2)
          obtain ⟨t1, t2⟩ := shut_of hm hg
          cases e3 : (shutK l m).1 with
          | false => rfl
          | true =>
            have hms := t2.1 e3
            have gm : gd8 (m.length : Int) m (z8 l) = true := gd8_ok (ys := []) hm
            rw [gm, gd8_ok hh, gd8_ok hk]
            simp only [cond_false, Bool.not_true, cond_true]
            have hat : ∀ x, InL l x → (bA (mrkL m (z8 l)) x = true ↔ x ∈ m) := fun x hx => by
              rw [mrkL_at m (z8 l) (fun y hy => by rw [z8_len]; exact hm.2 y hy) x hx.1, z8_at]; simp
            cases e4 : decide (idxN (nb8 h (mrkL m (z8 l))) h.length 0 < 0) with
            | false => rfl
            | true =>
              have hsub := nb_none.1 e4
              have hb2 : decide (idxN (nb8 (knownL l h) (mrkL m (z8 l))) (knownL l h).length 0 < 0) = true := nb_none.2 fun x hx => by
                refine (hat x (hk.2 x hx)).2 ?_
                exact Der.least (S := fun y => y ∈ m) (fun y hy => (hat y (hh.2 y hy)).1 (hsub y hy)) hms x ((known_mem hh hg x).1 hx)
              rw [hb2]; rfl
  exact g.2.1 _ _ (by kernel_rfl)
end Go.AM.Seat
