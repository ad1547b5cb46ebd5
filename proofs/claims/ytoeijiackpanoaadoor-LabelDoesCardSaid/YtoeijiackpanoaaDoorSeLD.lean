/- The law LabelDoes: the definition's walks, nodes, labels, keys. -/
import Derived.Test.YtoeijiackpanoaaDoorSeLH
import Derived.Test.YtoeijiackpanoaaDoorPlApart
set_option linter.unusedVariables false
set_option linter.unusedSimpArgs false
set_option maxRecDepth 100000
namespace Go.AM.Seat
open Go Go.AM Go.Proofs

/-! ### Open -/
theorem r633 (l : List Term.D) (v : Value.D) : run (orc [(N27, s19)]) noL [] F633 (encA [.v (.sl Term), .v Value] (l, v)) [] = bif g379' l v then some (.one (.bool (openV l v))) else none := by kernel_rfl
def s633 : Sp := .fn [.v (.sl Term), .v Value] fun x => (true, .one (.bool (openV x.1 x.2)))
theorem g633 : GoodS Tryd.prog N633 s633 := by
  refine good (.cons g27v (.nil _)) H633 rfl (by kernel_rfl) noL [] (noLoops (by kernel_rfl)) [.v (.sl Term), .v Value] (by decide) [] _ fun x r hw e => ?_
  obtain ⟨l, v⟩ := x
  cases e
  rw [r633, g379'_true]; rfl
/-! ### Walk -/
def Γ615 : Orc := orc [(N633, s633), (N23, s22)]
theorem Γ615ok : OrcOk Tryd.prog Γ615 := .cons g633 (.cons g23v (.nil _))
abbrev live615 : List (Nat × List (Nat × Dir)) := [(0, [(0, .keep), (2, .keep), (4, .keep), (6, .keep), (7, .keep), (8, .keep), (26, .keep), (27, .keep), (28, .keep)]), (2, [(0, .keep), (4, .keep), (6, .keep), (42, .keep), (43, .keep), (44, .keep), (41, .keep)])]
def vs615 (l : List Term.D) (v : Value.D) (e : Int) (sd : List Int) (n i : Int) : List AV :=
  [.one (.sl false Term none l), .one (.sl false I none sd), .own (enc Value false v), .own (enc Value false zeroV), .one .nils, .one (.int .i64 e), .one (.sl false I none sd), .one (.int .i64 n), .one (.int .i64 i)]
def vt615 (a : AV) (v : Value.D) (m : List Term.D) (sd : List Int) (n i : Int) : List AV :=
  [a, .own (enc Value false v), .own (enc Value false zeroV), .one (.sl false I none sd), .one (.int .i64 n), .one (.int .i64 i), .arr true Term m]
def ah : AV := .one (.hot 41 none)
def aS (l : List Term.D) : AV := .one (.sl true Term none l)
noncomputable abbrev lp615 (Λ : Lam AV) (K : AE → List AV → Option AV) (fuel : Nat) (vs : List AV) : Option AV := loopN (aexec tb Γ615 Λ ⟨65, 0, live615⟩ (loopK F615 0).2 0) 65 0 (Lay.get ⟨65, 0, live615⟩ 0) K fuel vs
noncomputable abbrev lq615 (Λ : Lam AV) (K : AE → List AV → Option AV) (fuel : Nat) (vs : List AV) : Option AV := loopN (aexec tb Γ615 Λ ⟨65, 0, live615⟩ (loopK F615 1).2 2) 65 0 (Lay.get ⟨65, 0, live615⟩ 2) K fuel vs
def badI (x : Int) : Bool := bif x != 0 then x != 1 else false
theorem step615 (l : List Term.D) (v : Value.D) (e : Int) (sd : List Int) (n i : Int) (Λ : Lam AV) (K : AE → List AV → Option AV) (fuel : Nat) : lp615 Λ K (fuel + 1) (vs615 l v e sd n i) =
    bif decide (i < n) then bif inB i sd.length then bif badI (iAt sd i) then K .ret (vs615 l v 1 sd n i) else lp615 Λ K fuel (vs615 l v e sd n (IntKind.i64.wrap (i + 1))) else none else K (.exit 0) (vs615 l v e sd n i) := by kernel_rfl
theorem steq615h (v : Value.D) (m : List Term.D) (sd : List Int) (n i : Int) (Λ : Lam AV) (K : AE → List AV → Option AV) (fuel : Nat) : lq615 Λ K (fuel + 1) (vt615 ah v m sd n i) =
    bif decide (i < n) then bif inB i sd.length then bif (partV m v (iAt sd i)).2.2 != 0 then K .ret (vt615 ah v m sd n i) else lq615 Λ K fuel (vt615 (aS (partV m v (iAt sd i)).2.1) (partV m v (iAt sd i)).1 m sd n (IntKind.i64.wrap (i + 1))) else none else K (.exit 2) (vt615 ah v m sd n i) := by kernel_rfl
theorem steq615s (l : List Term.D) (v : Value.D) (m : List Term.D) (sd : List Int) (n i : Int) (Λ : Lam AV) (K : AE → List AV → Option AV) (fuel : Nat) : lq615 Λ K (fuel + 1) (vt615 (aS l) v m sd n i) =
    bif decide (i < n) then bif inB i sd.length then bif (partV l v (iAt sd i)).2.2 != 0 then K .ret (vt615 (aS l) v m sd n i) else lq615 Λ K fuel (vt615 (aS (partV l v (iAt sd i)).2.1) (partV l v (iAt sd i)).1 m sd n (IntKind.i64.wrap (i + 1))) else none else K (.exit 2) (vt615 (aS l) v m sd n i) := by kernel_rfl
def Λ615 : Lam AV := fun cur vs K =>
  match cur, vs with
  | 0, [.one (.sl false (.pair (.int .i64) (.pair (.int .i64) (.int .i64))) none l), .one (.sl false (.int .i64) none sd), .own [.bool v1, .bool v2, .int .u64 v3, .int .u64 v4, .int .u64 v5, .int .u64 v6, .int .u64 v7, .int .u64 v8, .int .i64 v9],
      .own [.bool false, .bool false, .int .u64 0, .int .u64 0, .int .u64 0, .int .u64 0, .int .u64 0, .int .u64 0, .int .i64 0], .one .nils, .one (.int .i64 e), .one (.sl false (.int .i64) none sd'), .one (.int .i64 n), .one (.int .i64 0)] =>
    bif decide (n = sd.length) && decide (n ≤ 9223372036854775807) && decide (sd' = sd) then
      allK (fun j => K .ret (vs615 l (v1, v2, (v3, v4), ((v5, v6), (v7, v8)), v9) 1 sd n j)) (K (.exit 0) (vs615 l (v1, v2, (v3, v4), ((v5, v6), (v7, v8)), v9) e sd n n)) (fun j => badI (iAt sd j)) n.toNat 0
    else none
  | 2, [.one (.hot 41 none), .own [.bool v1, .bool v2, .int .u64 v3, .int .u64 v4, .int .u64 v5, .int .u64 v6, .int .u64 v7, .int .u64 v8, .int .i64 v9],
      .own [.bool false, .bool false, .int .u64 0, .int .u64 0, .int .u64 0, .int .u64 0, .int .u64 0, .int .u64 0, .int .i64 0], .one (.sl false (.int .i64) none sd), .one (.int .i64 n), .one (.int .i64 0), .arr true (.pair (.int .i64) (.pair (.int .i64) (.int .i64))) m] =>
    bif decide (n = sd.length) && decide (n ≤ 9223372036854775807) && decide ((walkL ((v1, v2, (v3, v4), ((v5, v6), (v7, v8)), v9), m, 0) sd).2.2 = 0) then
      bif n == 0 then K (.exit 2) (vt615 ah (walkL ((v1, v2, (v3, v4), ((v5, v6), (v7, v8)), v9), m, 0) sd).1 m sd n n)
      else K (.exit 2) (vt615 (aS (walkL ((v1, v2, (v3, v4), ((v5, v6), (v7, v8)), v9), m, 0) sd).2.1) (walkL ((v1, v2, (v3, v4), ((v5, v6), (v7, v8)), v9), m, 0) sd).1 m sd n n)
    else none
  | _, _ => none
theorem walk_stay : ∀ (sd : List Int) {x : WS}, x.2.2 ≠ 0 → walkL x sd = x := by
  intro sd
  induction sd with
  | nil => intro x _; rfl
  | cons i sd ih => intro x h; rw [walkL, stepW_stay h]; exact ih h
theorem walk_zero {x : WS} {sd : List Int} (h : (walkL x sd).2.2 = 0) : x.2.2 = 0 := by
  rcases Classical.em (x.2.2 = 0) with h0 | h0
  · exact h0
  · rw [walk_stay sd h0] at h; exact h
theorem loop615a : LoopP tb Γ615 Λ615 ⟨65, 0, live615⟩ (loopK F615 0) := by
  intro vs K out h
  have hcur : (loopK F615 0).1 = 0 := by kernel_rfl
  rw [hcur] at h ⊢
  unfold Λ615 at h
  split at h
  · rename_i l sd v1 v2 v3 v4 v5 v6 v7 v8 v9 e sd' n _
    cases hc : (decide (n = sd.length) && decide (n ≤ 9223372036854775807) && decide (sd' = sd)) with
    | false => rw [hc] at h; cases h
    | true =>
      rw [hc] at h
      simp only [cond_true] at h
      simp only [Bool.and_eq_true, decide_eq_true_eq] at hc
      obtain ⟨⟨rfl, hmax⟩, rfl⟩ := hc
      obtain ⟨v, hv⟩ : ∃ v : Value.D, v = (v1, v2, (v3, v4), ((v5, v6), (v7, v8)), v9) := ⟨_, rfl⟩
      rw [← hv] at h
      have hg : ∀ e i, [.one (.sl false Term none l), .one (.sl false I none sd'), .own (enc Value false (v1, v2, (v3, v4), ((v5, v6), (v7, v8)), v9)), .own (enc Value false zeroV), .one .nils, .one (.int .i64 e), .one (.sl false I none sd'), .one (.int .i64 (sd'.length : Int)), .one (.int .i64 i)] = vs615 l v e sd' sd'.length i := fun e i => by rw [hv]; rfl
      refine (fun q : ∃ fuel, lp615 Λ615 K fuel (vs615 l v e sd' sd'.length 0) = some out => by rw [← hg] at q; exact q) ?_
      refine upLoop (α := Unit) (n := sd'.length) (F := fun fuel _ j => lp615 Λ615 K fuel (vs615 l v e sd' sd'.length j))
        (G := fun j _ => allK (fun j => K .ret (vs615 l v 1 sd' sd'.length j)) (K (.exit 0) (vs615 l v e sd' sd'.length sd'.length)) (fun j => badI (iAt sd' j)) (sd'.length - j) j)
        (fun fuel _ => ?_) (fun _ j hj => ?_) sd'.length 0 () out (by omega) h
      · simp only [step615, nlt_dec, cond_false, Nat.sub_self, allK]
      · have hm : sd'.length - j = (sd'.length - (j + 1)) + 1 := by omega
        have hstep : ∀ fuel, lp615 Λ615 K (fuel + 1) (vs615 l v e sd' sd'.length j) = bif badI (iAt sd' j) then K .ret (vs615 l v 1 sd' sd'.length j) else lp615 Λ615 K fuel (vs615 l v e sd' sd'.length ((j + 1 : Nat) : Int)) := by
          intro fuel
          rw [step615, lt_dec hj, inB_lt hj, wrap64 (n := (j : Int) + 1) (by omega) (by omega)]; rfl
        cases hx : badI (iAt sd' j) with
        | true => right; intro fuel; rw [hstep, hx]; simp only [hm, allK, hx, cond_true]
        | false =>
          left; refine ⟨(), fun fuel => ?_, ?_⟩
          · rw [hstep, hx]; rfl
          · simp only [hm, allK, hx, cond_false]
  · exact absurd (show (0 : Nat) = 2 by assumption) (by decide)
  · cases h
theorem loop615b : LoopP tb Γ615 Λ615 ⟨65, 0, live615⟩ (loopK F615 1) := by
  intro vs K out h
  have hcur : (loopK F615 1).1 = 2 := by kernel_rfl
  rw [hcur] at h ⊢
  unfold Λ615 at h
  split at h
  · exact absurd (show (2 : Nat) = 0 by assumption) (by decide)
  · rename_i v1 v2 v3 v4 v5 v6 v7 v8 v9 sd n m _
    obtain ⟨v, hv⟩ : ∃ v : Value.D, v = (v1, v2, (v3, v4), ((v5, v6), (v7, v8)), v9) := ⟨_, rfl⟩
    rw [← hv] at h
    cases hc : (decide (n = sd.length) && decide (n ≤ 9223372036854775807) && decide ((walkL (v, m, 0) sd).2.2 = 0)) with
    | false => rw [hc] at h; cases h
    | true =>
      rw [hc] at h
      simp only [cond_true] at h
      simp only [Bool.and_eq_true, decide_eq_true_eq] at hc
      obtain ⟨⟨rfl, hmax⟩, hz⟩ := hc
      have hg : [.one (.hot 41 none), .own (enc Value false (v1, v2, (v3, v4), ((v5, v6), (v7, v8)), v9)), .own (enc Value false zeroV), .one (.sl false I none sd), .one (.int .i64 (sd.length : Int)), .one (.int .i64 0), .arr true Term m] = vt615 ah v m sd sd.length 0 := by rw [hv]; rfl
      refine (fun q : ∃ fuel, lq615 Λ615 K fuel (vt615 ah v m sd sd.length 0) = some out => by rw [← hg] at q; exact q) ?_
      have main : ∀ (k j : Nat) (x : List Term.D × Value.D), j + k = sd.length → (walkL (x.2, x.1, 0) (sd.drop j)).2.2 = 0 → K (.exit 2) (vt615 (aS (walkL (x.2, x.1, 0) (sd.drop j)).2.1) (walkL (x.2, x.1, 0) (sd.drop j)).1 m sd sd.length sd.length) = some out →
          ∃ fuel, lq615 Λ615 K fuel (vt615 (aS x.1) x.2 m sd sd.length j) = some out := by
        intro k
        induction k with
        | zero =>
          intro j x hj he hk
          obtain rfl : j = sd.length := by omega
          rw [List.drop_length] at hk
          exact ⟨1, by rw [steq615s, nlt_dec]; exact hk⟩
        | succ k ih =>
          intro j x hj he hk
          have hjl : j < sd.length := by omega
          rw [walk_drop hjl] at he hk
          have hp : (partV x.1 x.2 (iAt sd j)).2.2 = 0 := walk_zero he
          have hs : stepW (x.2, x.1, 0) (iAt sd j) = ((partV x.1 x.2 (iAt sd j)).1, (partV x.1 x.2 (iAt sd j)).2.1, 0) := by
            show partV x.1 x.2 (iAt sd j) = _
            rw [← hp]
          rw [hs] at he hk
          obtain ⟨fuel, hf⟩ := ih (j + 1) ((partV x.1 x.2 (iAt sd j)).2.1, (partV x.1 x.2 (iAt sd j)).1) (by omega) he hk
          refine ⟨fuel + 1, ?_⟩
          rw [steq615s, lt_dec hjl, inB_lt hjl, hp, wrap64 (n := (j : Int) + 1) (by omega) (by omega)]
          exact hf
      cases sd with
      | nil =>
        refine ⟨1, ?_⟩
        rw [steq615h, show decide ((0 : Int) < (([] : List Int).length : Int)) = false from rfl]
        exact h
      | cons i sd =>
        have hjl : 0 < (i :: sd).length := by simp
        have he := hz
        have hk : K (.exit 2) (vt615 (aS (walkL (v, m, 0) (i :: sd)).2.1) (walkL (v, m, 0) (i :: sd)).1 m (i :: sd) (i :: sd).length (i :: sd).length) = some out := by
          rw [show ((((i :: sd).length : Nat) : Int) == 0) = false by simp; omega] at h
          exact h
        have w0 := walk_drop (x := (v, m, 0)) hjl
        rw [List.drop_zero] at w0
        rw [w0] at he hk
        have hp : (partV m v (iAt (i :: sd) (0 : Nat))).2.2 = 0 := walk_zero he
        have hs : stepW (v, m, 0) (iAt (i :: sd) (0 : Nat)) = ((partV m v (iAt (i :: sd) (0 : Nat))).1, (partV m v (iAt (i :: sd) (0 : Nat))).2.1, 0) := by
          show partV m v (iAt (i :: sd) (0 : Nat)) = _
          rw [← hp]
        rw [hs] at he hk
        obtain ⟨fuel, hf⟩ := main sd.length 1 ((partV m v (iAt (i :: sd) (0 : Nat))).2.1, (partV m v (iAt (i :: sd) (0 : Nat))).1) (by simp; omega) he hk
        refine ⟨fuel + 1, ?_⟩
        have l0 := lt_dec hjl
        have l1 := inB_lt hjl
        rw [steq615h, show decide ((0 : Int) < (((i :: sd).length : Nat) : Int)) = true from l0, show inB (0 : Int) (i :: sd).length = true from l1, show (partV m v (iAt (i :: sd) 0)).2.2 = 0 from hp]
        exact hf
  · cases h
def E615 (l : List Term.D) (v : Value.D) (sd : List Int) : Option AV :=
  bif small24 l.length then
    bif decide ((sd.length : Int) = sd.length) && decide ((sd.length : Int) ≤ 9223372036854775807) && decide ((walkL (v, l, 0) sd).2.2 = 0) then
      bif (sd.length : Int) == 0 then some (vle ((walkL (v, l, 0) sd).1, l, 0)) else some (vle ((walkL (v, l, 0) sd).1, (walkL (v, l, 0) sd).2.1, 0))
    else none
  else none
theorem r615 (l : List Term.D) (v : Value.D) (sd : List Int) : run Γ615 Λ615 live615 F615 (encA W3 (l, v, sd)) wVle =
    bif bif !openV l v then true else decide ((sd.length : Int) > 32) then some (vle (zeroV, [], 1)) else
    bif decide ((sd.length : Int) = sd.length) && decide ((sd.length : Int) ≤ 9223372036854775807) && decide (sd = sd) then
      allK (fun _ => some (vle (zeroV, [], 1))) (E615 l v sd) (fun j => badI (iAt sd j)) (sd.length : Int).toNat 0
    else none := by kernel_rfl
theorem open_start (l : List Term.D) (v : Value.D) : openV l v = (startE l v == 0) := by
  unfold openV startE b51
  rcases checkV_one l v with h | h <;> rw [h]
  · cases v.2.1 with
    | true => rfl
    | false =>
      cases v.1 with
      | false => rfl
      | true =>
        simp only [beq_self_eq_true, cond_true, Bool.not_false, Bool.not_true, cond_false]
        cases h5 : (tAt l v.2.2.2.2).1 == 5 with
        | true => simp only [bne, h5]; rfl
        | false => simp only [bne, h5]; rfl
  · rfl
theorem bad_odd {x : Int} (hx : IntKind.i64.has x) : badI x = oddB x := by
  cases ho : oddB x with
  | false =>
    obtain ⟨h1, h2⟩ := odd_bits hx ho
    have : x = 0 ∨ x = 1 := by omega
    rcases this with rfl | rfl <;> decide
  | true =>
    unfold badI
    cases h0 : x != 0 with
    | false =>
      have : x = 0 := by simpa using h0
      subst this
      rw [show oddB 0 = false by decide] at ho; cases ho
    | true =>
      cases h1 : x != 1 with
      | true => rfl
      | false =>
        have : x = 1 := by simpa using h1
        subst this
        rw [show oddB 1 = false by decide] at ho; cases ho
theorem anyK_list {f : Int → Bool} (sd : List Int) : ∀ (m j : Nat), j + m = sd.length → anyK (fun j => f (iAt sd j)) m j = (sd.drop j).any f := by
  intro m
  induction m with
  | zero => intro j h; rw [List.drop_eq_nil_of_le (by omega)]; rfl
  | succ m ih =>
    intro j h
    rw [anyK, ih (j + 1) (by omega), iAt_cons (show j < sd.length by omega), List.any_cons]
    cases f (iAt sd j) <;> rfl
def small65 (n : Nat) : Bool := decide (n ≤ 65000)
def s615 : Sp := .fn W3 fun x => (small65 x.1.length, vle (walkV x.1 x.2.1 x.2.2))
theorem has_of {sd : List Int} (hw : WF (.sl I) sd) : ∀ x ∈ sd, IntKind.i64.has x := hw.2
theorem g615 : GoodS Tryd.prog N615 s615 := by
  refine good Γ615ok H615 rfl (by kernel_rfl) Λ615 live615 (twoLoops (p0 := loopK F615 0) (p1 := loopK F615 1) (by kernel_rfl) loop615a loop615b) W3 (by decide) wVle _ fun x r hw e => ?_
  obtain ⟨l, v, sd⟩ := x
  have e1 := congrArg Prod.fst e
  have e2 := congrArg Prod.snd e
  simp only at e1 e2
  have hl : l.length ≤ 65000 := of_decide_eq_true e1
  have hsd : ∀ x ∈ sd, IntKind.i64.has x := has_of hw.2.2
  refine (r615 l v sd).trans ?_
  rw [← e2, open_start]
  have hb : (fun j : Nat => badI (iAt sd j)) = fun j : Nat => badI (iAt sd j) := rfl
  cases h0 : startE l v == 0 with
  | false =>
    unfold walkV noWalk
    rw [show (startE l v != 0) = true by rw [bne, h0]; rfl]; rfl
  | true =>
    have hs : startE l v = 0 := eq_of_beq h0
    cases h32 : decide ((sd.length : Int) > 32) with
    | true =>
      unfold walkV noWalk
      rw [h32, hs]; rfl
    | false =>
      have h32' : sd.length ≤ 32 := by simp at h32; omega
      rw [show (decide ((sd.length : Int) = sd.length) && decide ((sd.length : Int) ≤ 9223372036854775807) && decide (sd = sd)) = true by rw [decide_eq_true (show sd = sd from rfl), Bool.and_true]; exact lenMax (by omega)]
      simp only [Bool.not_true, cond_true, cond_false]
      rw [allK_two, Int.toNat_natCast, anyK_list sd sd.length 0 (by omega), List.drop_zero]
      cases ho : sd.any badI with
      | true =>
        have : sd.any oddB = true := by
          obtain ⟨x, hx, hb⟩ := List.any_eq_true.1 ho
          exact List.any_eq_true.2 ⟨x, hx, by rw [← bad_odd (hsd x hx)]; exact hb⟩
        unfold walkV noWalk
        rw [h32, hs, this]; rfl
      | false =>
        have h01 : ∀ x ∈ sd, 0 ≤ x ∧ x ≤ 1 := fun x hx => by
          have := List.any_eq_false.1 ho x hx
          rw [bad_odd (hsd x hx)] at this
          exact odd_bits (hsd x hx) (by simpa using this)
        obtain ⟨sym, b, t0, hd⟩ := den_of hs
        obtain ⟨v', r', a1, a2, a3⟩ := hd.walk sd (fun x hx => ⟨(h01 x hx).1, Int.le_trans (h01 x hx).2 (by decide)⟩) (by omega)
        rw [walkV_eq hs h01 h32']
        unfold E615
        rw [small_of (by omega), a1]
        rw [show (decide ((sd.length : Int) = sd.length) && decide ((sd.length : Int) ≤ 9223372036854775807) && decide ((v', l ++ r', (0 : Int)).2.2 = 0)) = true by rw [decide_eq_true (show (v', l ++ r', (0 : Int)).2.2 = 0 from rfl), Bool.and_true]; exact lenMax (by omega)]
        cases hn : (sd.length : Int) == 0 with
        | false => rfl
        | true =>
          have hn' : sd.length = 0 := by have := eq_of_beq hn; omega
          have hr : r' = [] := List.eq_nil_of_length_eq_zero (by omega)
          subst hr
          rw [List.append_nil]; rfl

/-! ### Node -/
def Γ616 : Orc := orc [(N338, s311), (N633, s633), (N615, s615)]
theorem r616 (l : List Term.D) (h : Int) (v : Value.D) (n : Int) : run Γ616 noL [] F616 (encA L4n (l, h, v, n)) wVle =
    bif bif (pathI h 1 n).2 != 0 then true else !openV l v then some (vle (zeroV, [], 1)) else bif small65 l.length then some (vle (walkV l v (pathI h 1 n).1)) else none := by kernel_rfl
def s616 : Sp := .fn L4n fun x => (small65 x.1.length, vle (nodeV x.1 x.2.1 x.2.2.1 x.2.2.2))
/-! ### Label -/
def Γ617 : Orc := orc [(N345, s345), (N633, s633), (N616, s616), (N23, s22), (N338, s311), (N615, s615)]
def labR (y : WS) (h : Int) (s : Subset.D) : Option AV :=
  bif bif y.2.2 != 0 then true else s.2 == 0 then some (vle y) else bif small65 y.2.1.length then some (vle (walkV y.2.1 y.1 (pathI h s.1 s.2).1)) else none
theorem r617 (l : List Term.D) (h : Int) (v : Value.D) (s : Subset.D) : run Γ617 noL [] F617 (encA L4 (l, h, v, s)) wVle =
    bif bif subE h s != 0 then true else !openV l v then some (vle (zeroV, [], 1)) else bif small65 l.length then
      bif (nodeV l h v s.1).2.2 != 0 then some (vle (zeroV, [], (nodeV l h v s.1).2.2)) else labR (partV (nodeV l h v s.1).2.1 (nodeV l h v s.1).1 2) h s
    else none := by kernel_rfl
def small60 (n : Nat) : Bool := decide (n ≤ 60000)
def s617 : Sp := .fn L4 fun x => (small60 x.1.length, vle (labelV x.1 x.2.1 x.2.2.1 x.2.2.2))
/-! ### Key -/
def Γ618 : Orc := orc [(N335, s318), (N633, s633), (N617, s617), (N23, s22)]
theorem r618 (l : List Term.D) (h k : Int) (v : Value.D) (s : Subset.D) : run Γ618 noL [] F618 (encA L5 (l, h, k, v, s)) wVle =
    bif bif bif (mayI h k s).2 != 0 then true else !(mayI h k s).1 then true else !openV l v then some (vle (zeroV, [], 1)) else bif small60 l.length then
      bif bif (labelV l h v s).2.2 != 0 then true else k == 1 then some (vle (labelV l h v s)) else some (vle (partV (labelV l h v s).2.1 (labelV l h v s).1 2))
    else none := by kernel_rfl
def s618 : Sp := .fn L5 fun x => (small60 x.1.length, vle (keyV x.1 x.2.1 x.2.2.1 x.2.2.2.1 x.2.2.2.2))
theorem path_chk {h n : Int} (hc : chkI h n ≠ 0) : (pathI h 1 n).2 ≠ 0 := by
  unfold pathI bothI both
  rw [show (chkI h n != 0) = true by simpa using hc]
  cases chkI h 1 != 0 <;> exact (by decide : ((1 : Int) ≠ 0))
theorem g616 : GoodS Tryd.prog N616 s616 := by
  refine good (.cons g338 (.cons g633 (.cons g615 (.nil _)))) H616 rfl (by kernel_rfl) noL [] (noLoops (by kernel_rfl)) L4n (by decide) wVle _ fun x r hw e => ?_
  obtain ⟨l, h, v, n⟩ := x
  have e1 := congrArg Prod.fst e
  have e2 := congrArg Prod.snd e
  simp only at e1 e2
  refine (r616 l h v n).trans ?_
  rw [← e2, e1, open_start]
  cases h0 : startE l v == 0 with
  | false =>
    unfold nodeV noNode
    rw [show (startE l v != 0) = true by rw [bne, h0]; rfl]
    cases (pathI h 1 n).2 != 0 <;> rfl
  | true =>
    have hs : startE l v = 0 := eq_of_beq h0
    rcases Classical.em (chkI h n = 0) with hc | hc
    · obtain ⟨hk, hh, hn⟩ := okN_chk hw.2.2.2 hc
      have hr := root_path hk
      rw [hh, hn] at hr
      have hp : (pathI h 1 n).2 = 0 := by rw [hr]
      have hlen : (pathI h 1 n).1.length ≤ 32 := by
        have := path_lenH h 1 n
        have := (okN_iff.1 hk).2.1
        omega
      rw [hp, nodeV_run hs hc hp, walkV_eq hs (path_01 h 1 n) hlen]; rfl
    · have := path_chk hc
      rw [show ((pathI h 1 n).2 != 0) = true by simpa using this]
      unfold nodeV noNode
      rw [hs, show (chkI h n != 0) = true by simpa using hc]; rfl
theorem g617 : GoodS Tryd.prog N617 s617 := by
  refine good (.cons g345 (.cons g633 (.cons g616 (.cons g23v (.cons g338 (.cons g615 (.nil _))))))) H617 rfl (by kernel_rfl) noL [] (noLoops (by kernel_rfl)) L4 (by decide) wVle _ fun x r hw e => ?_
  obtain ⟨l, h, v, s⟩ := x
  have e1 := congrArg Prod.fst e
  have e2 := congrArg Prod.snd e
  simp only at e1 e2
  have hl : l.length ≤ 60000 := of_decide_eq_true e1
  refine (r617 l h v s).trans ?_
  rw [← e2, open_start]
  cases h0 : startE l v == 0 with
  | false =>
    unfold labelV noLab
    rw [show (startE l v != 0) = true by rw [bne, h0]; rfl]
    cases subE h s != 0 <;> rfl
  | true =>
    have hs : startE l v = 0 := eq_of_beq h0
    rcases Classical.em (subE h s = 0) with hc | hc
    · obtain ⟨q0, q1, q2⟩ := path_root hw.2.2.2.1 hw.2.2.2.2 hc
      obtain ⟨sym, b, t0, hd⟩ := den_of hs
      have hn : noLab l h v s = false := by unfold noLab; rw [hs, hc]; rfl
      have hci : chkI h s.1 = 0 := by
        rcases Classical.em (chkI h s.1 = 0) with h9 | h9
        · exact h9
        · exact absurd q1 (path_chk h9)
      obtain ⟨hk, hh, hn1⟩ := okN_chk hw.2.2.2.1 hci
      have h32 := (okN_iff.1 hk).2.1
      have hlen : ∀ a b, (pathI h a b).1.length ≤ 32 := fun a b => by
        have := path_lenH h a b
        omega
      obtain ⟨v1, r1, a1, a2, a3⟩ := hd.walk (pathI h 1 s.1).1 (path_02 h 1 s.1) (by have := hlen 1 s.1; omega)
      have hlen1 := hlen 1 s.1
      obtain ⟨v2, r2, b1, b2, b3⟩ := a3.step (by rw [List.length_append]; omega) (i := 2) (by decide) (by decide)
      have hlv : labelV l h v s = endW (walkL (v, l, 0) (labP h s)) := by
        unfold labelV
        rw [hn, hd.start, labelW_ok q1 q2]; rfl
      have hst : walkL (v1, l ++ r1, 0) [2] = (v2, l ++ r1 ++ r2, 0) := by
        show stepW (v1, l ++ r1, 0) 2 = _
        unfold stepW; rw [← b1]; rfl
      rw [hc, nodeV_run hs hci q1, a1, show small65 l.length = true from decide_eq_true (by omega), hlv]
      show (bif ((0 : Int) != 0) then _ else labR (partV (l ++ r1) v1 2) h s) = _
      rw [b1]
      unfold labP labR
      rw [walkL_app, walkL_app, a1, hst]
      cases h2 : s.2 == 0 with
      | true => rw [show (s.2 != 0) = false by rw [bne, h2]; rfl]; rfl
      | false =>
        rw [show (s.2 != 0) = true by rw [bne, h2]; rfl, show small65 (v2, l ++ r1 ++ r2, (0 : Int)).2.1.length = true from decide_eq_true (by simp only [List.length_append]; omega)]
        show some (vle (walkV (l ++ r1 ++ r2) v2 (pathI h s.1 s.2).1)) = _
        rw [walkV_eq b3.startE (path_01 h s.1 s.2) (hlen s.1 s.2)]; rfl
    · unfold labelV noLab
      rw [hs, show (subE h s != 0) = true by simpa using hc]; rfl
theorem g618 : GoodS Tryd.prog N618 s618 := by
  refine good (.cons g335 (.cons g633 (.cons g617 (.cons g23v (.nil _))))) H618 rfl (by kernel_rfl) noL [] (noLoops (by kernel_rfl)) L5 (by decide) wVle _ fun x r hw e => ?_
  obtain ⟨l, h, k, v, s⟩ := x
  have e1 := congrArg Prod.fst e
  have e2 := congrArg Prod.snd e
  simp only at e1 e2
  have hl : l.length ≤ 60000 := of_decide_eq_true e1
  refine (r618 l h k v s).trans ?_
  rw [← e2, e1, open_start]
  cases h0 : startE l v == 0 with
  | false =>
    unfold keyV noKey
    rw [show (startE l v != 0) = true by rw [bne, h0]; rfl]
    cases (mayI h k s).2 != 0 <;> cases (mayI h k s).1 <;> rfl
  | true =>
    have hs : startE l v = 0 := eq_of_beq h0
    cases hm2 : (mayI h k s).2 != 0 with
    | true => unfold keyV noKey; rw [hs, hm2]; rfl
    | false =>
      cases hm1 : (mayI h k s).1 with
      | false => unfold keyV noKey; rw [hs, hm2, hm1]; rfl
      | true =>
        have hm : mayI h k s = (true, 0) := Prod.ext hm1 (by simpa using hm2)
        have hc := (may_sub hm).1
        obtain ⟨sym, b, t0, hd⟩ := den_of hs
        have hn : noLab l h v s = false := by unfold noLab; rw [hs, hc]; rfl
        have hk : noKey l h k v s = false := by unfold noKey; rw [hs, hm2, hm1]; rfl
        obtain ⟨q0, q1, q2⟩ := path_root hw.2.2.2.2.1 hw.2.2.2.2.2 hc
        have h32 : h.toNat ≤ 32 := by
          have hci : chkI h s.1 = 0 := by
            rcases Classical.em (chkI h s.1 = 0) with h9 | h9
            · exact h9
            · exact absurd q1 (path_chk h9)
          exact (okN_iff.1 (okN_chk hw.2.2.2.2.1 hci).1).2.1
        obtain ⟨v1, r1, a1, a2, a3⟩ := labelV_run hd (by omega) hn q1 q2
        have hlw : labelW (v, l, 0) h s = (v1, l ++ r1, 0) := by
          have h9 : endW (labelW (v, l, 0) h s) = (v1, l ++ r1, 0) := by
            rw [← a1]; unfold labelV; rw [hn, hd.start]; rfl
          have h8 := endW_err (x := labelW (v, l, 0) h s) (by rw [h9])
          rw [← h9]; exact h8.2.symm
        obtain ⟨v2, r2, b1, b2, b3⟩ := a3.step (by rw [List.length_append]; omega) (i := 2) (by decide) (by decide)
        unfold keyV
        rw [hk, hd.start, hlw, a1]
        cases hk1 : k == 1 with
        | true => rw [show (k != 1) = false by rw [bne, hk1]; rfl]; rfl
        | false =>
          rw [show (k != 1) = true by rw [bne, hk1]; rfl]
          show some (vle (partV (l ++ r1) v1 2)) = some (vle (endW (stepW (v1, l ++ r1, 0) 2)))
          have : stepW (v1, l ++ r1, 0) 2 = partV (l ++ r1) v1 2 := rfl
          rw [this, b1]; rfl

/-! ### the law -/
def Γ605 : Orc := orcL 208 [(N608, sLive), (N346, s346), (N615, s615), (N609, s609), (N616, s616), (N347, s347io), (N617, s617), (N320, s320), (N618, s618), (N26, s26)]
theorem Γ605ok : OrcOk Tryd.prog Γ605 := OrcOk.toL 208 (.cons g608 (.cons g346 (.cons g615 (.cons g609 (.cons g616 (.cons g347io (.cons g617 (.cons g320 (.cons g618 (.cons g26 (.nil _)))))))))))
abbrev live605 : List (Nat × Dir) := [(0, .keep), (15, .keep), (16, .keep), (30, .keep), (41, .keep), (186, .keep), (187, .keep), (54, .keep), (208, .keep)]
def bumpK (t : Term.D) : Term.D := (IntKind.i64.wrap (t.1 + 1), t.2)
def vs605 (l was m : List Term.D) (up okk : Bool) (n i : Int) : List AV :=
  [.one (.sl false Term none l), .one (.bool up), .one (.hot 54 none), .one (.hot 208 none), .one (.bool okk), .one (.int .i64 n), .one (.int .i64 i), .arr true Term was, .gho (.arr true Term m)]
def Λ605 : Lam AV := fun cur vs K =>
  match cur, vs with
  | 0, [.one (.sl false (.pair (.int .i64) (.pair (.int .i64) (.int .i64))) none l), .one (.bool up), .one (.hot 54 none), .one (.hot 208 none), .one (.bool okk), .one (.int .i64 n), .one (.int .i64 0),
      .arr true (.pair (.int .i64) (.pair (.int .i64) (.int .i64))) was, .gho (.arr true (.pair (.int .i64) (.pair (.int .i64) (.int .i64))) m)] =>
    bif decide (n = m.length) && decide (n ≤ 9223372036854775807) then K (.exit 0) (vs605 l was (m.map bumpK) up okk n n) else none
  | _, _ => none
theorem step605 (l was m : List Term.D) (up okk : Bool) (n i : Int) (K : AE → List AV → Option AV) (fuel : Nat) :
    loopN (aexec tb Γ605 Λ605 ⟨208, 1, [(0, live605)]⟩ (loop1 F605).2 0) 208 1 live605 K (fuel + 1) (vs605 l was m up okk n i) =
    bif decide (i < n) then
      bif inB i m.length then
        bif inB i m.length then loopN (aexec tb Γ605 Λ605 ⟨208, 1, [(0, live605)]⟩ (loop1 F605).2 0) 208 1 live605 K fuel (vs605 l was (m.set i.toNat (bumpK (tAt m i))) up okk n (IntKind.i64.wrap (i + 1)))
        else none
      else none
    else K (.exit 0) (vs605 l was m up okk n i) := by kernel_rfl
theorem bumpK_step (m : List Term.D) (j : Nat) (hj : j < m.length) : m.take j ++ (m.drop j).map bumpK = (m.set j (bumpK (tAt m j))).take (j + 1) ++ ((m.set j (bumpK (tAt m j))).drop (j + 1)).map bumpK := by
  have hA : (m.take j ++ [bumpK (tAt m j)]).length = j + 1 := by simp; omega
  have hs : m.set j (bumpK (tAt m j)) = (m.take j ++ [bumpK (tAt m j)]) ++ m.drop (j + 1) := by
    rw [List.set_eq_take_append_cons_drop, if_pos hj, List.append_assoc]; rfl
  rw [hs, List.take_left' hA, List.drop_left' hA, tAt_drop hj, List.map_cons, List.append_assoc]; rfl
theorem loop605 : LoopP tb Γ605 Λ605 ⟨208, 1, [(0, live605)]⟩ (loop1 F605) := by
  intro vs K out h
  have hcur : (loop1 F605).1 = 0 := by kernel_rfl
  rw [hcur] at h ⊢
  unfold Λ605 at h
  split at h
  · rename_i l up okk n was m _
    cases hc : (decide (n = m.length) && decide (n ≤ 9223372036854775807)) with
    | false => rw [hc] at h; cases h
    | true =>
      rw [hc] at h
      simp only [cond_true] at h
      simp only [Bool.and_eq_true, decide_eq_true_eq] at hc
      obtain ⟨rfl, hmax⟩ := hc
      obtain ⟨N, hN⟩ : ∃ N, N = m.length := ⟨_, rfl⟩
      rw [← hN] at h hmax ⊢
      refine upLoop (α := { m' : List Term.D // m'.length = N }) (n := N) (F := fun fuel m' i => loopN (aexec tb Γ605 Λ605 ⟨208, 1, [(0, live605)]⟩ (loop1 F605).2 0) 208 1 live605 K fuel (vs605 l was m'.1 up okk N i))
        (G := fun j m' => K (.exit 0) (vs605 l was (m'.1.take j ++ (m'.1.drop j).map bumpK) up okk N N)) (fun fuel m' => ?_) (fun m' j hj => ?_) N 0 ⟨m, hN.symm⟩ out (by omega) h
      · obtain ⟨m', hm⟩ := m'
        have e1 : m'.take N = m' := List.take_of_length_le (by omega)
        have e2 : m'.drop N = [] := List.drop_of_length_le (by omega)
        simp only [step605, nlt_dec, cond_false, e1, e2, List.map_nil, List.append_nil]
      · obtain ⟨m', hm⟩ := m'
        have hj' : j < m'.length := by omega
        left; refine ⟨⟨m'.set j (bumpK (tAt m' j)), by simpa using hm⟩, fun fuel => ?_, ?_⟩
        · simp only [step605, lt_dec hj, inB_lt hj', cond_true, Int.toNat_natCast]
          rw [wrap64 (by omega) (by omega)]; rfl
        · simp only [bumpK_step m' j hj']
  · cases h
def conjK : Bool → List Bool → Bool
  | b, [] => b
  | b, c :: r => conjK (bif b then c else false) r
def doesK (l : List Term.D) (a b c d : WS) : Bool :=
  conjK (valEq a.1 a.1) [sameL a.2.1 a.2.1, a.2.2 == a.2.2, valEq b.1 b.1, sameL b.2.1 b.2.1, b.2.2 == b.2.2, valEq c.1 c.1, sameL c.2.1 c.2.1, c.2.2 == c.2.2, valEq d.1 d.1, sameL d.2.1 d.2.1, d.2.2 == d.2.2, sameL l l]
@[reducible] def A605 : List AK := [.v (.sl Term), .v I, .v I, .v Value, .v U, .v Subset, .v (.sl I)]
def fin605 (l : List Term.D) (a b c d : WS) : Option AV :=
  bif decide ((c.2.1.length : Int) = c.2.1.length) && decide ((c.2.1.length : Int) ≤ 9223372036854775807) then oB (doesK l a b c d) else none
theorem r605 (l : List Term.D) (h k : Int) (v : Value.D) (n : Int) (s : Subset.D) (sd : List Int) : runG Γ605 Λ605 1 [(0, live605)] F605 (encA A605 (l, h, k, v, n, s, sd)) [] =
    bif bif decide ((l.length : Int) > 60) then true else decide ((sd.length : Int) > 60) then oB true else
    bif small24 l.length then bif small24 l.length then bif small65 l.length then bif small24 l.length then bif small65 l.length then bif small24 l.length then bif small60 l.length then bif small24 l.length then bif small60 l.length then
      fin605 l (walkV l v sd) (nodeV l h v n) (labelV l h v s) (keyV l h k v s)
    else none else none else none else none else none else none else none else none else none := by kernel_rfl
theorem sameL_refl (l : List Term.D) : sameL l l = true := decide_eq_true rfl
theorem good605 (x : ADen A605) : Good Tryd.prog N605 (encA A605 x) (.one (.bool true)) := by
  obtain ⟨l, h, k, v, n, s, sd⟩ := x
  refine goodRunG Γ605ok H605 rfl Λ605 1 [(0, live605)] (oneLoop (p0 := loop1 F605) (by kernel_rfl) loop605) _ (by show 7 ≤ _; decide) [] ((r605 l h k v n s sd).trans ?_) (fun x hx => by cases hx; decide)
  cases h1 : (bif decide ((l.length : Int) > 60) then true else decide ((sd.length : Int) > 60)) with
  | true => rfl
  | false =>
    have hl : l.length ≤ 60 := by
      cases h2 : decide ((l.length : Int) > 60) with
      | true => rw [h2] at h1; cases h1
      | false => simp at h2; omega
    have hb := labelV_bd l h v s
    unfold fin605
    rw [small_of (by omega), show small65 l.length = true from decide_eq_true (by omega), show small60 l.length = true from decide_eq_true (by omega), len_max (show (labelV l h v s).2.1.length ≤ 9223372036854775807 by omega)]
    simp only [cond_true, cond_false, doesK, conjK, beq_self_eq_true, sameL_refl, valEq_iff.2]; rfl
end Go.AM.Seat
