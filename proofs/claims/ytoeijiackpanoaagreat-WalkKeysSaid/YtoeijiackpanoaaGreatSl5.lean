/- The seat: contracts and plain laws, in order (cut out of all texts by a program). -/
import Derived.Test.YtoeijiackpanoaaGreatSl4
set_option linter.unusedVariables false
set_option linter.unusedSimpArgs false
set_option maxRecDepth 100000
namespace Go.AM.Seat
open Go Go.AM Go.Proofs


/-- A value that may be, and is not sealed, stands for itself. -/
theorem den_of {l : List Term.D} {v : Value.D} (h : startE l v = 0) : ∃ sym b t0, Den sym b t0 l [] v := by
  unfold startE at h
  cases hb : b51 l v with
  | true => rw [hb] at h; cases h
  | false =>
    rw [hb] at h
    have hc : checkV l v = 0 := h
    have hg : GoodL l := checkL_iff.1 (checkV_zero.1 hc).1
    unfold b51 at hb
    rw [hc] at hb
    simp only [beq_self_eq_true, cond_true] at hb
    cases hs : v.1 with
    | true =>
      obtain ⟨e, h0, h1⟩ := plain_sym hc hs
      obtain ⟨t, ht⟩ := Int.eq_ofNat_of_zero_le h0
      rw [ht] at e h1
      have hk : ((tAt l v.2.2.2.2).1 == 5) = false := by
        rw [hs] at hb
        cases h2 : v.2.1 with
        | true => rw [h2] at hb; cases hb
        | false => rw [h2] at hb; exact hb
      rw [ht] at hk
      have hlt : t < l.length := by simpa using h1
      have hx : l[t]? = some l[t] := List.getElem?_eq_getElem hlt
      refine ⟨true, (0, 0), t, hg, fun x hx => (by cases hx), t, e, ?_⟩
      refine ⟨rfl, l[t], hx, ?_⟩
      rw [tAt_get hx] at hk
      simpa using hk
    | false =>
      rcases plain_oct hc hs with ⟨h2, e⟩ | ⟨h2, e⟩
      · rw [h2] at hb; cases hb
      · exact ⟨false, v.2.2.1, 0, hg, fun x hx => (by cases hx), e⟩
theorem walkV_eq {l : List Term.D} {v : Value.D} {sd : List Int} (hs : startE l v = 0) (h1 : ∀ x ∈ sd, 0 ≤ x ∧ x ≤ 1) (h2 : sd.length ≤ 32) : walkV l v sd = endW (walkL (v, l, 0) sd) := by
  obtain ⟨sym, b, t0, hd⟩ := den_of hs
  unfold walkV noWalk
  rw [hs, decide_eq_false (show ¬ (sd.length : Int) > 32 by omega), odd_01 h1, hd.start]; rfl
theorem odd_bits {x : Int} (hx : IntKind.i64.has x) (h : oddB x = false) : 0 ≤ x ∧ x ≤ 1 := by
  unfold oddB at h
  obtain ⟨b, hb⟩ : ∃ b, b = BitVec.ofInt 64 x := ⟨_, rfl⟩
  rw [← hb] at h
  have h0 : (b &&& ~~~(BitVec.ofInt 64 1)).toNat = 0 := by
    have h1 : IntKind.i64.wrap ((b &&& ~~~(BitVec.ofInt 64 1)).toNat : Int) = 0 := by simpa using h
    obtain ⟨q, hq⟩ : ∃ q, q = (b &&& ~~~(BitVec.ofInt 64 1)).toNat := ⟨_, rfl⟩
    have h2 : q < 2 ^ 64 := by rw [hq]; exact (b &&& ~~~(BitVec.ofInt 64 1)).isLt
    rw [← hq] at h1 ⊢
    unfold IntKind.wrap at h1
    simp [IntKind.signed, IntKind.bits] at h1
    omega
  have h1 : b &&& ~~~(BitVec.ofInt 64 1) = 0#64 := BitVec.eq_of_toNat_eq (by rw [h0]; rfl)
  have h2 : b = (b &&& ~~~(BitVec.ofInt 64 1)) ||| (b &&& BitVec.ofInt 64 1) := by
    apply BitVec.eq_of_getLsbD_eq
    intro i hi
    simp only [BitVec.getLsbD_or, BitVec.getLsbD_and, BitVec.getLsbD_not, hi, decide_true, Bool.true_and]
    cases b.getLsbD i <;> cases (BitVec.ofInt 64 1).getLsbD i <;> rfl
  rw [h1] at h2
  have h3 : b.toNat = b.toNat % 2 := by
    have := congrArg BitVec.toNat h2
    rw [BitVec.toNat_or, BitVec.toNat_and, show (BitVec.ofInt 64 1).toNat = 1 by decide, Nat.and_one_is_mod] at this
    simpa using this
  have h4 : b.toNat = (x % 18446744073709551616).toNat := by rw [hb, BitVec.toNat_ofInt]; rfl
  have h5 : -9223372036854775808 ≤ x := hx.1
  have h6 : x ≤ 9223372036854775807 := hx.2
  have h7 : b.toNat % 2 < 2 := Nat.mod_lt _ (by decide)
  omega
theorem r633 (l : List Term.D) (v : Value.D) : run (orc [(N27, s19)]) noL [] F633 (encA [.v (.sl Term), .v Value] (l, v)) [] = bif g379' l v then some (.one (.bool (openV l v))) else none := by kernel_rfl
def s633 : Sp := .fn [.v (.sl Term), .v Value] fun x => (true, .one (.bool (openV x.1 x.2)))
theorem g633 : GoodS Tryz.prog N633 s633 := by
  refine good (.cons g27v (.nil _)) H633 rfl (by kernel_rfl) noL [] (noLoops (by kernel_rfl)) [.v (.sl Term), .v Value] (by decide) [] _ fun x r hw e => ?_
  obtain ⟨l, v⟩ := x
  cases e
  rw [r633, g379'_true]; rfl
def Γ615 : Orc := orc [(N633, s633), (N23, s22)]
theorem Γ615ok : OrcOk Tryz.prog Γ615 := .cons g633 (.cons g23v (.nil _))
abbrev live615 : List (Nat × List (Nat × Dir)) := [(0, [(0, .keep), (2, .keep), (4, .keep), (6, .keep), (7, .keep), (8, .keep), (26, .keep), (27, .keep), (28, .keep)]), (2, [(0, .keep), (4, .keep), (6, .keep), (42, .keep), (43, .keep), (44, .keep), (41, .keep)])]
def vs615 (l : List Term.D) (v : Value.D) (e : Int) (sd : List Int) (n i : Int) : List AV :=
  [.one (.sl false Term none l), .one (.sl false I none sd), .own (enc Value false v), .own (enc Value false zeroV), .one .nils, .one (.int .i64 e), .one (.sl false I none sd), .one (.int .i64 n), .one (.int .i64 i)]
def vt615 (a : AV) (v : Value.D) (m : List Term.D) (sd : List Int) (n i : Int) : List AV :=
  [a, .own (enc Value false v), .own (enc Value false zeroV), .one (.sl false I none sd), .one (.int .i64 n), .one (.int .i64 i), .arr true Term m]
def ah : AV := .one (.hot 41 none)
def aS (l : List Term.D) : AV := .one (.sl true Term none l)
noncomputable abbrev lp615 (Λ : Lam AV) (K : AE → List AV → Option AV) (fuel : Nat) (vs : List AV) : Option AV := loopN (aexec tb Γ615 Λ ⟨65, 0, live615⟩ (loopK F615 0).2 0) 65 0 (Lay.get ⟨65, 0, live615⟩ 0) K fuel vs
noncomputable abbrev lq615 (Λ : Lam AV) (K : AE → List AV → Option AV) (fuel : Nat) (vs : List AV) : Option AV := loopN (aexec tb Γ615 Λ ⟨65, 0, live615⟩ (loopK F615 1).2 2) 65 0 (Lay.get ⟨65, 0, live615⟩ 2) K fuel vs
def badI (x : Int) : Bool := bif x != 0 then x != 1 else false
theorem step615 (l : List Term.D) (v : Value.D) (e : Int) (sd : List Int) (n i : Int) (Λ : Lam AV) (K : AE → List AV → Option AV) (fuel : Nat) : lp615 Λ K (fuel + 1) (vs615 l v e sd n i) =
    bif decide (i < n) then bif inB i sd.length then bif badI (iAt sd i) then K .ret (vs615 l v 1 sd n i) else lp615 Λ K fuel (vs615 l v e sd n (IntKind.i64.wrap (i + 1))) else none else K (.exit 0) (vs615 l v e sd n i) := by kernel_rfl
theorem steq615h (v : Value.D) (m : List Term.D) (sd : List Int) (n i : Int) (Λ : Lam AV) (K : AE → List AV → Option AV) (fuel : Nat) : lq615 Λ K (fuel + 1) (vt615 ah v m sd n i) =
    bif decide (i < n) then bif inB i sd.length then bif (partV m v (iAt sd i)).2.2 != 0 then K .ret (vt615 ah v m sd n i) else lq615 Λ K fuel (vt615 (aS (partV m v (iAt sd i)).2.1) (partV m v (iAt sd i)).1 m sd n (IntKind.i64.wrap (i + 1))) else none else K (.exit 2) (vt615 ah v m sd n i) := by kernel_rfl
theorem steq615s (l : List Term.D) (v : Value.D) (m : List Term.D) (sd : List Int) (n i : Int) (Λ : Lam AV) (K : AE → List AV → Option AV) (fuel : Nat) : lq615 Λ K (fuel + 1) (vt615 (aS l) v m sd n i) =
    bif decide (i < n) then bif inB i sd.length then bif (partV l v (iAt sd i)).2.2 != 0 then K .ret (vt615 (aS l) v m sd n i) else lq615 Λ K fuel (vt615 (aS (partV l v (iAt sd i)).2.1) (partV l v (iAt sd i)).1 m sd n (IntKind.i64.wrap (i + 1))) else none else K (.exit 2) (vt615 (aS l) v m sd n i) := by kernel_rfl
def Λ615 : Lam AV := fun cur vs K =>
  match cur, vs with
  | 0, [.one (.sl false (.pair (.int .i64) (.pair (.int .i64) (.int .i64))) none l), .one (.sl false (.int .i64) none sd), .own [.bool v1, .bool v2, .int .u64 v3, .int .u64 v4, .int .u64 v5, .int .u64 v6, .int .u64 v7, .int .u64 v8, .int .i64 v9],
      .own [.bool false, .bool false, .int .u64 0, .int .u64 0, .int .u64 0, .int .u64 0, .int .u64 0, .int .u64 0, .int .i64 0], .one .nils, .one (.int .i64 e), .one (.sl false (.int .i64) none sd'), .one (.int .i64 n), .one (.int .i64 0)] =>
    bif decide (n = sd.length) && decide (n ≤ 9223372036854775807) && decide (sd' = sd) then
      allK (fun j => K .ret (vs615 l (v1, v2, (v3, v4), ((v5, v6), (v7, v8)), v9) 1 sd n j)) (K (.exit 0) (vs615 l (v1, v2, (v3, v4), ((v5, v6), (v7, v8)), v9) e sd n n)) (fun j => badI (iAt sd j)) n.toNat 0
    else none
  | 2, [.one (.hot 41 none), .own [.bool v1, .bool v2, .int .u64 v3, .int .u64 v4, .int .u64 v5, .int .u64 v6, .int .u64 v7, .int .u64 v8, .int .i64 v9],
      .own [.bool false, .bool false, .int .u64 0, .int .u64 0, .int .u64 0, .int .u64 0, .int .u64 0, .int .u64 0, .int .i64 0], .one (.sl false (.int .i64) none sd), .one (.int .i64 n), .one (.int .i64 0), .arr true (.pair (.int .i64) (.pair (.int .i64) (.int .i64))) m] =>
    bif decide (n = sd.length) && decide (n ≤ 9223372036854775807) && decide ((walkL ((v1, v2, (v3, v4), ((v5, v6), (v7, v8)), v9), m, 0) sd).2.2 = 0) then
      bif n == 0 then K (.exit 2) (vt615 ah (walkL ((v1, v2, (v3, v4), ((v5, v6), (v7, v8)), v9), m, 0) sd).1 m sd n n)
      else K (.exit 2) (vt615 (aS (walkL ((v1, v2, (v3, v4), ((v5, v6), (v7, v8)), v9), m, 0) sd).2.1) (walkL ((v1, v2, (v3, v4), ((v5, v6), (v7, v8)), v9), m, 0) sd).1 m sd n n)
    else none
  | _, _ => none
theorem walk_stay : ∀ (sd : List Int) {x : WS}, x.2.2 ≠ 0 → walkL x sd = x := by
  intro sd
  induction sd with
  | nil => intro x _; rfl
  | cons i sd ih => intro x h; rw [walkL, stepW_stay h]; exact ih h
theorem walk_zero {x : WS} {sd : List Int} (h : (walkL x sd).2.2 = 0) : x.2.2 = 0 := by
  rcases Classical.em (x.2.2 = 0) with h0 | h0
  · exact h0
  · rw [walk_stay sd h0] at h; exact h
theorem loop615a : LoopP tb Γ615 Λ615 ⟨65, 0, live615⟩ (loopK F615 0) := by
  intro vs K out h
  have hcur : (loopK F615 0).1 = 0 := by kernel_rfl
  rw [hcur] at h ⊢
  unfold Λ615 at h
  split at h
  · rename_i l sd v1 v2 v3 v4 v5 v6 v7 v8 v9 e sd' n _
    cases hc : (decide (n = sd.length) && decide (n ≤ 9223372036854775807) && decide (sd' = sd)) with
    | false => rw [hc] at h; cases h
    | true =>
      rw [hc] at h
      simp only [cond_true] at h
      simp only [Bool.and_eq_true, decide_eq_true_eq] at hc
      obtain ⟨⟨rfl, hmax⟩, rfl⟩ := hc
      obtain ⟨v, hv⟩ : ∃ v : Value.D, v = (v1, v2, (v3, v4), ((v5, v6), (v7, v8)), v9) := ⟨_, rfl⟩
      rw [← hv] at h
      have hg : ∀ e i, [.one (.sl false Term none l), .one (.sl false I none sd'), .own (enc Value false (v1, v2, (v3, v4), ((v5, v6), (v7, v8)), v9)), .own (enc Value false zeroV), .one .nils, .one (.int .i64 e), .one (.sl false I none sd'), .one (.int .i64 (sd'.length : Int)), .one (.int .i64 i)] = vs615 l v e sd' sd'.length i := fun e i => by rw [hv]; rfl
      refine (fun q : ∃ fuel, lp615 Λ615 K fuel (vs615 l v e sd' sd'.length 0) = some out => by rw [← hg] at q; exact q) ?_
      refine upLoop (α := Unit) (n := sd'.length) (F := fun fuel _ j => lp615 Λ615 K fuel (vs615 l v e sd' sd'.length j))
        (G := fun j _ => allK (fun j => K .ret (vs615 l v 1 sd' sd'.length j)) (K (.exit 0) (vs615 l v e sd' sd'.length sd'.length)) (fun j => badI (iAt sd' j)) (sd'.length - j) j)
        (fun fuel _ => ?_) (fun _ j hj => ?_) sd'.length 0 () out (by omega) h
      · simp only [step615, nlt_dec, cond_false, Nat.sub_self, allK]
      · have hm : sd'.length - j = (sd'.length - (j + 1)) + 1 := by omega
        have hstep : ∀ fuel, lp615 Λ615 K (fuel + 1) (vs615 l v e sd' sd'.length j) = bif badI (iAt sd' j) then K .ret (vs615 l v 1 sd' sd'.length j) else lp615 Λ615 K fuel (vs615 l v e sd' sd'.length ((j + 1 : Nat) : Int)) := by
          intro fuel
          rw [step615, lt_dec hj, inB_lt hj, wrap64 (n := (j : Int) + 1) (by omega) (by omega)]; rfl
        cases hx : badI (iAt sd' j) with
        | true => right; intro fuel; rw [hstep, hx]; simp only [hm, allK, hx, cond_true]
        | false =>
          left; refine ⟨(), fun fuel => ?_, ?_⟩
          · rw [hstep, hx]; rfl
          · simp only [hm, allK, hx, cond_false]
  · exact absurd (show (0 : Nat) = 2 by assumption) (by decide)
  · cases h
theorem loop615b : LoopP tb Γ615 Λ615 ⟨65, 0, live615⟩ (loopK F615 1) := by
  intro vs K out h
  have hcur : (loopK F615 1).1 = 2 := by kernel_rfl
  rw [hcur] at h ⊢
  unfold Λ615 at h
  split at h
  · exact absurd (show (2 : Nat) = 0 by assumption) (by decide)
  · rename_i v1 v2 v3 v4 v5 v6 v7 v8 v9 sd n m _
    obtain ⟨v, hv⟩ : ∃ v : Value.D, v = (v1, v2, (v3, v4), ((v5, v6), (v7, v8)), v9) := ⟨_, rfl⟩
    rw [← hv] at h
    cases hc : (decide (n = sd.length) && decide (n ≤ 9223372036854775807) && decide ((walkL (v, m, 0) sd).2.2 = 0)) with
    | false => rw [hc] at h; cases h
    | true =>
      rw [hc] at h
      simp only [cond_true] at h
      simp only [Bool.and_eq_true, decide_eq_true_eq] at hc
      obtain ⟨⟨rfl, hmax⟩, hz⟩ := hc
      have hg : [.one (.hot 41 none), .own (enc Value false (v1, v2, (v3, v4), ((v5, v6), (v7, v8)), v9)), .own (enc Value false zeroV), .one (.sl false I none sd), .one (.int .i64 (sd.length : Int)), .one (.int .i64 0), .arr true Term m] = vt615 ah v m sd sd.length 0 := by rw [hv]; rfl
      refine (fun q : ∃ fuel, lq615 Λ615 K fuel (vt615 ah v m sd sd.length 0) = some out => by rw [← hg] at q; exact q) ?_
      have main : ∀ (k j : Nat) (x : List Term.D × Value.D), j + k = sd.length → (walkL (x.2, x.1, 0) (sd.drop j)).2.2 = 0 → K (.exit 2) (vt615 (aS (walkL (x.2, x.1, 0) (sd.drop j)).2.1) (walkL (x.2, x.1, 0) (sd.drop j)).1 m sd sd.length sd.length) = some out →
          ∃ fuel, lq615 Λ615 K fuel (vt615 (aS x.1) x.2 m sd sd.length j) = some out := by
        intro k
        induction k with
        | zero =>
          intro j x hj he hk
          obtain rfl : j = sd.length := by omega
          rw [List.drop_length] at hk
          exact ⟨1, by rw [steq615s, nlt_dec]; exact hk⟩
        | succ k ih =>
          intro j x hj he hk
          have hjl : j < sd.length := by omega
          rw [walk_drop hjl] at he hk
          have hp : (partV x.1 x.2 (iAt sd j)).2.2 = 0 := walk_zero he
          have hs : stepW (x.2, x.1, 0) (iAt sd j) = ((partV x.1 x.2 (iAt sd j)).1, (partV x.1 x.2 (iAt sd j)).2.1, 0) := by
            show partV x.1 x.2 (iAt sd j) = _
            rw [← hp]
          rw [hs] at he hk
          obtain ⟨fuel, hf⟩ := ih (j + 1) ((partV x.1 x.2 (iAt sd j)).2.1, (partV x.1 x.2 (iAt sd j)).1) (by omega) he hk
          refine ⟨fuel + 1, ?_⟩
          rw [steq615s, lt_dec hjl, inB_lt hjl, hp, wrap64 (n := (j : Int) + 1) (by omega) (by omega)]
          exact hf
      cases sd with
      | nil =>
        refine ⟨1, ?_⟩
        rw [steq615h, show decide ((0 : Int) < (([] : List Int).length : Int)) = false from rfl]
        exact h
      | cons i sd =>
        have hjl : 0 < (i :: sd).length := by simp
        have he := hz
        have hk : K (.exit 2) (vt615 (aS (walkL (v, m, 0) (i :: sd)).2.1) (walkL (v, m, 0) (i :: sd)).1 m (i :: sd) (i :: sd).length (i :: sd).length) = some out := by
          rw [show ((((i :: sd).length : Nat) : Int) == 0) = false by simp; omega] at h
          exact h
        have w0 := walk_drop (x := (v, m, 0)) hjl
        rw [List.drop_zero] at w0
        rw [w0] at he hk
        have hp : (partV m v (iAt (i :: sd) (0 : Nat))).2.2 = 0 := walk_zero he
        have hs : stepW (v, m, 0) (iAt (i :: sd) (0 : Nat)) = ((partV m v (iAt (i :: sd) (0 : Nat))).1, (partV m v (iAt (i :: sd) (0 : Nat))).2.1, 0) := by
          show partV m v (iAt (i :: sd) (0 : Nat)) = _
          rw [← hp]
        rw [hs] at he hk
        obtain ⟨fuel, hf⟩ := main sd.length 1 ((partV m v (iAt (i :: sd) (0 : Nat))).2.1, (partV m v (iAt (i :: sd) (0 : Nat))).1) (by simp; omega) he hk
        refine ⟨fuel + 1, ?_⟩
        have l0 := lt_dec hjl
        have l1 := inB_lt hjl
        rw [steq615h, show decide ((0 : Int) < (((i :: sd).length : Nat) : Int)) = true from l0, show inB (0 : Int) (i :: sd).length = true from l1, show (partV m v (iAt (i :: sd) 0)).2.2 = 0 from hp]
        exact hf
  · cases h
def E615 (l : List Term.D) (v : Value.D) (sd : List Int) : Option AV :=
  bif small24 l.length then
    bif decide ((sd.length : Int) = sd.length) && decide ((sd.length : Int) ≤ 9223372036854775807) && decide ((walkL (v, l, 0) sd).2.2 = 0) then
      bif (sd.length : Int) == 0 then some (vle ((walkL (v, l, 0) sd).1, l, 0)) else some (vle ((walkL (v, l, 0) sd).1, (walkL (v, l, 0) sd).2.1, 0))
    else none
  else none
theorem r615 (l : List Term.D) (v : Value.D) (sd : List Int) : run Γ615 Λ615 live615 F615 (encA W3 (l, v, sd)) wVle =
    bif bif !openV l v then true else decide ((sd.length : Int) > 32) then some (vle (zeroV, [], 1)) else
    bif decide ((sd.length : Int) = sd.length) && decide ((sd.length : Int) ≤ 9223372036854775807) && decide (sd = sd) then
      allK (fun _ => some (vle (zeroV, [], 1))) (E615 l v sd) (fun j => badI (iAt sd j)) (sd.length : Int).toNat 0
    else none := by kernel_rfl
theorem open_start (l : List Term.D) (v : Value.D) : openV l v = (startE l v == 0) := by
  unfold openV startE b51
  rcases checkV_one l v with h | h <;> rw [h]
  · cases v.2.1 with
    | true => rfl
    | false =>
      cases v.1 with
      | false => rfl
      | true =>
        simp only [beq_self_eq_true, cond_true, Bool.not_false, Bool.not_true, cond_false]
        cases h5 : (tAt l v.2.2.2.2).1 == 5 with
        | true => simp only [bne, h5]; rfl
        | false => simp only [bne, h5]; rfl
  · rfl
theorem bad_odd {x : Int} (hx : IntKind.i64.has x) : badI x = oddB x := by
  cases ho : oddB x with
  | false =>
    obtain ⟨h1, h2⟩ := odd_bits hx ho
    have : x = 0 ∨ x = 1 := by omega
    rcases this with rfl | rfl <;> decide
  | true =>
    unfold badI
    cases h0 : x != 0 with
    | false =>
      have : x = 0 := by simpa using h0
      subst this
      rw [show oddB 0 = false by decide] at ho; cases ho
    | true =>
      cases h1 : x != 1 with
      | true => rfl
      | false =>
        have : x = 1 := by simpa using h1
        subst this
        rw [show oddB 1 = false by decide] at ho; cases ho
theorem anyK_list {f : Int → Bool} (sd : List Int) : ∀ (m j : Nat), j + m = sd.length → anyK (fun j => f (iAt sd j)) m j = (sd.drop j).any f := by
  intro m
  induction m with
  | zero => intro j h; rw [List.drop_eq_nil_of_le (by omega)]; rfl
  | succ m ih =>
    intro j h
    rw [anyK, ih (j + 1) (by omega), iAt_cons (show j < sd.length by omega), List.any_cons]
    cases f (iAt sd j) <;> rfl
def small65 (n : Nat) : Bool := decide (n ≤ 65000)
def s615 : Sp := .fn W3 fun x => (small65 x.1.length, vle (walkV x.1 x.2.1 x.2.2))
theorem has_of {sd : List Int} (hw : WF (.sl I) sd) : ∀ x ∈ sd, IntKind.i64.has x := hw.2
theorem g615 : GoodS Tryz.prog N615 s615 := by
  refine good Γ615ok H615 rfl (by kernel_rfl) Λ615 live615 (twoLoops (p0 := loopK F615 0) (p1 := loopK F615 1) (by kernel_rfl) loop615a loop615b) W3 (by decide) wVle _ fun x r hw e => ?_
  obtain ⟨l, v, sd⟩ := x
  have e1 := congrArg Prod.fst e
  have e2 := congrArg Prod.snd e
  simp only at e1 e2
  have hl : l.length ≤ 65000 := of_decide_eq_true e1
  have hsd : ∀ x ∈ sd, IntKind.i64.has x := has_of hw.2.2
  refine (r615 l v sd).trans ?_
  rw [← e2, open_start]
  have hb : (fun j : Nat => badI (iAt sd j)) = fun j : Nat => badI (iAt sd j) := rfl
  cases h0 : startE l v == 0 with
  | false =>
    unfold walkV noWalk
    rw [show (startE l v != 0) = true by rw [bne, h0]; rfl]; rfl
  | true =>
    have hs : startE l v = 0 := eq_of_beq h0
    cases h32 : decide ((sd.length : Int) > 32) with
    | true =>
      unfold walkV noWalk
      rw [h32, hs]; rfl
    | false =>
      have h32' : sd.length ≤ 32 := by simp at h32; omega
      rw [show (decide ((sd.length : Int) = sd.length) && decide ((sd.length : Int) ≤ 9223372036854775807) && decide (sd = sd)) = true by rw [decide_eq_true (show sd = sd from rfl), Bool.and_true]; exact lenMax (by omega)]
      simp only [Bool.not_true, cond_true, cond_false]
      rw [allK_two, Int.toNat_natCast, anyK_list sd sd.length 0 (by omega), List.drop_zero]
      cases ho : sd.any badI with
      | true =>
        have : sd.any oddB = true := by
          obtain ⟨x, hx, hb⟩ := List.any_eq_true.1 ho
          exact List.any_eq_true.2 ⟨x, hx, by rw [← bad_odd (hsd x hx)]; exact hb⟩
        unfold walkV noWalk
        rw [h32, hs, this]; rfl
      | false =>
        have h01 : ∀ x ∈ sd, 0 ≤ x ∧ x ≤ 1 := fun x hx => by
          have := List.any_eq_false.1 ho x hx
          rw [bad_odd (hsd x hx)] at this
          exact odd_bits (hsd x hx) (by simpa using this)
        obtain ⟨sym, b, t0, hd⟩ := den_of hs
        obtain ⟨v', r', a1, a2, a3⟩ := hd.walk sd (fun x hx => ⟨(h01 x hx).1, Int.le_trans (h01 x hx).2 (by decide)⟩) (by omega)
        rw [walkV_eq hs h01 h32']
        unfold E615
        rw [small_of (by omega), a1]
        rw [show (decide ((sd.length : Int) = sd.length) && decide ((sd.length : Int) ≤ 9223372036854775807) && decide ((v', l ++ r', (0 : Int)).2.2 = 0)) = true by rw [decide_eq_true (show (v', l ++ r', (0 : Int)).2.2 = 0 from rfl), Bool.and_true]; exact lenMax (by omega)]
        cases hn : (sd.length : Int) == 0 with
        | false => rfl
        | true =>
          have hn' : sd.length = 0 := by have := eq_of_beq hn; omega
          have hr : r' = [] := List.eq_nil_of_length_eq_zero (by omega)
          subst hr
          rw [List.append_nil]; rfl
end Go.AM.Seat
