/- know.Shut$1, know.Is$1, and what asks them. -/
import Derived.Test.YtnkdeglckmogcaaSeKA
import Derived.Test.YtnkdeglckmogcaaSeT1
set_option linter.unusedVariables false
set_option maxRecDepth 100000
namespace Go.AM.Seat
open Go Go.AM Go.Proofs
def bxM (n : Nat) : AV := .own [.ptr n 0]
def unB : AV → Nat → Bool
  | .own [.ptr n 0], k => Nat.beq n k
  | _, _ => false
theorem unB_eq {a : AV} {k : Nat} (h : unB a k = true) : a = bxM k := by
  unfold unB at h
  split at h
  · rename_i n; rw [Nat.eq_of_beq_eq_true h]; rfl
  · cases h
def unMn (n : Nat) : AV → AV → AV → Option (List Term.D × List (List Int) × Kn)
  | .own [.sl false (.pair (.int .i64) (.pair (.int .i64) (.int .i64))) none l, .hot a none, .hot c none, .sl false (.sl (.int .i64)) none us], .arr false .bool b, .arr false (.int .i64) k => bif Nat.beq a (n + 1) && Nat.beq c (n + 2) then some (l, us, b, k) else none
  | _, _, _ => none
theorem unMn_eq {n : Nat} {a g k : AV} {x : List Term.D × List (List Int) × Kn} (h : unMn n a g k = some x) : a = obM (n + 1) (n + 2) x.1 x.2.1 ∧ g = .arr false .bool x.2.2.1 ∧ k = .arr false I x.2.2.2 := by
  unfold unMn at h
  split at h
  · rename_i l a' c us b k'
    cases hc : Nat.beq a' (n + 1) && Nat.beq c (n + 2) with
    | false => rw [hc] at h; cases h
    | true =>
      rw [hc] at h
      simp only [Bool.and_eq_true] at hc
      rw [Nat.eq_of_beq_eq_true hc.1, Nat.eq_of_beq_eq_true hc.2]
      cases h; exact ⟨rfl, rfl, rfl⟩
  · cases h

/-! ### Shut$1 -/
def env1 (n : Nat) (l : List Term.D) (us : List (List Int)) (s : Kn) : List AV := [bxM (n + 1), obM (n + 2) (n + 3) l us, .arr false .bool s.1, .arr false I s.2]
def ans1 (s : Kn) (k : Int) : Bool := !mAt s.1 k
theorem r69 (l : List Term.D) (us : List (List Int)) (s : Kn) (k : Int) : runIO (orc []) noL2 4 [] F69 [.one (.int .i64 k), .one (.ptr 12 0)] (env1 12 l us s) 1 [] =
    bif inB k s.1.length then some (.one (.bool (ans1 s k)), env1 0 l us s) else none := by kernel_rfl
def s69 : Sp := .io fun a p gs => match a, p, gs with
  | [.one (.int .i64 k), .one (.ptr 0 0)], 1, [g0, g1, g2, g3] => (match unB g0 1, unMn 1 g1 g2 g3 with
    | true, some x => some (inB k x.2.2.1.length, .one (.bool (ans1 x.2.2 k)), env1 0 x.1 x.2.1 x.2.2)
    | _, _ => none)
  | _, _, _ => none
theorem g69 : GoodS Try.prog N69 s69 := by
  refine GoodS.io (callable_of H69 (bd rfl) (by kernel_rfl)) fun a p gs r gs' hw1 hw2 h => ?_
  clear hw1 hw2
  split at h
  · rename_i k g0 g1 g2 g3
    split at h
    · rename_i x h0 h1
      obtain rfl := unB_eq h0
      obtain ⟨rfl, rfl, rfl⟩ := unMn_eq h1
      simp only [Option.some.injEq, Prod.mk.injEq] at h
      obtain ⟨h2, rfl, rfl⟩ := h
      obtain ⟨l, us, s⟩ := x
      have hrun := r69 l us s k
      rw [h2] at hrun
      exact goodIO1 (.nil _) H69 rfl noL2 4 [] (noLoops (by kernel_rfl)) [.one (.int .i64 k), .one (.ptr 0 0)] (env1 0 l us s) 1
          (ys := [.one (.int .i64 k), .one (.ptr 12 0)]) (hs := env1 12 l us s) rfl rfl rfl (Nat.le_add_left 1 3) (by show 2 ≤ _; decide) (Nat.le_refl 4) [] hrun
    · cases h
  · cases h

/-! ### Is$1 -/
def env2 (n : Nat) (l : List Term.D) (us : List (List Int)) (s : Kn) (i : Int) : List AV := [bxM (n + 2), .own [.int .i64 i], obM (n + 3) (n + 4) l us, .arr false .bool s.1, .arr false I s.2]
def unI : AV → Option Int
  | .own [.int .i64 i] => some i
  | _ => none
theorem unI_eq {a : AV} {i : Int} (h : unI a = some i) : a = .own [.int .i64 i] := by
  unfold unI at h
  split at h
  · cases h; rfl
  · cases h
def ok71 (l : List Term.D) (s : Kn) (k : Int) : Bool := inB k l.length && (outO l s.1 k).isSome
def ans2 (l : List Term.D) (s : Kn) (i k : Int) : Bool := bif (tAt l k).2.2 == i then (outO l s.1 k).getD false else false
theorem r71 (l : List Term.D) (us : List (List Int)) (s : Kn) (k i : Int) : runIO (orcL 22 [(N72, s72)]) noL2 5 [] F71 [.one (.int .i64 k), .one (.ptr 20 0), .one (.ptr 21 0)] (env2 20 l us s i) 2 [] =
    bif inB k l.length then bif (tAt l k).2.2 == i then bif (outO l s.1 k).isSome then some (.one (.bool ((outO l s.1 k).getD false)), env2 0 l us s i) else none else some (.one (.bool false), env2 0 l us s i) else none := by kernel_rfl
def s71 : Sp := .io fun a p gs => match a, p, gs with
  | [.one (.int .i64 k), .one (.ptr 0 0), .one (.ptr 1 0)], 2, [g0, gi, g1, g2, g3] => (match unB g0 2, unI gi, unMn 2 g1 g2 g3 with
    | true, some i, some x => some (ok71 x.1 x.2.2 k, .one (.bool (ans2 x.1 x.2.2 i k)), env2 0 x.1 x.2.1 x.2.2 i)
    | _, _, _ => none)
  | _, _, _ => none
theorem g71 : GoodS Try.prog N71 s71 := by
  refine GoodS.io (callable_of H71 (bd rfl) (by kernel_rfl)) fun a p gs r gs' hw1 hw2 h => ?_
  clear hw1 hw2
  split at h
  · rename_i k g0 gi g1 g2 g3
    split at h
    · rename_i i x h0 h1 h2
      obtain rfl := unB_eq h0
      obtain rfl := unI_eq h1
      obtain ⟨rfl, rfl, rfl⟩ := unMn_eq h2
      simp only [Option.some.injEq, Prod.mk.injEq, ok71, Bool.and_eq_true] at h
      obtain ⟨⟨h3, h4⟩, rfl, rfl⟩ := h
      obtain ⟨l, us, s⟩ := x
      have hrun := r71 l us s k i
      simp only at h3 h4
      rw [h3, h4] at hrun
      refine goodIO1 (OrcOk.toL 22 (.cons g72 (.nil _))) H71 rfl noL2 5 [] (noLoops (by kernel_rfl)) [.one (.int .i64 k), .one (.ptr 0 0), .one (.ptr 1 0)] (env2 0 l us s i) 2
          (ys := [.one (.int .i64 k), .one (.ptr 20 0), .one (.ptr 21 0)]) (hs := env2 20 l us s i) rfl rfl rfl (Nat.le_add_left 2 3) (by show 3 ≤ _; decide) (Nat.le_refl 5) [] (hrun.trans ?_) (fun x hx => by cases hx; decide)
      unfold ans2
      cases (tAt l k).2.2 == i <;> rfl
    · cases h
  · cases h

/-! ### IndexFunc, ContainsFunc -/
theorem findC {ρ : Type} {xs : List Int} {ok ans : Int → Bool} {F : Nat → Int → Option ρ} {Kx : Int → Option ρ} {Kr : Int → Option ρ} {n : Int}
    (step : ∀ fuel i, F (fuel + 1) i = bif decide (i < n) then bif inB i xs.length then bif ok (kA xs i) then bif ans (kA xs i) then Kr i else F fuel (IntKind.i64.wrap (i + 1)) else none else none else Kx i)
    (hn : n = xs.length) (hmax : n ≤ 9223372036854775807) (hall : xs.all ok = true) {out : ρ} (h : (bif decide (idxFrom ans xs 0 < 0) then Kx n else Kr (idxFrom ans xs 0)) = some out) : ∃ fuel, F fuel 0 = some out := by
  subst hn
  have key : ∀ (m j : Nat), j + m = xs.length → (bif decide (idxFrom ans (xs.drop j) j < 0) then Kx xs.length else Kr (idxFrom ans (xs.drop j) j)) = some out → ∃ fuel, F fuel j = some out := by
    intro m
    induction m with
    | zero =>
      intro j hj h
      obtain rfl : j = xs.length := by omega
      rw [List.drop_length] at h
      exact ⟨1, by rw [step, nlt_dec]; exact h⟩
    | succ m ih =>
      intro j hj h
      have hlt : j < xs.length := by omega
      have hok : ok (kA xs j) = true := List.all_eq_true.1 hall _ (by unfold kA; simp [hlt])
      have hx : kA xs j = xs.getD j 0 := rfl
      rw [idxFrom_drop _ _ _ hlt] at h
      cases hp : ans (xs.getD j 0) with
      | true =>
        rw [hp] at h
        simp only [cond_true] at h
        rw [decide_eq_false (show ¬ ((j : Nat) : Int) < 0 by omega)] at h
        exact ⟨1, by rw [step, lt_dec hlt, inB_lt hlt, hok, hx, hp]; exact h⟩
      | false =>
        rw [hp] at h
        obtain ⟨fuel, hf⟩ := ih (j + 1) (by omega) h
        refine ⟨fuel + 1, ?_⟩
        rw [step, lt_dec hlt, inB_lt hlt, hok, hx, hp, wrap64 (n := (j : Int) + 1) (by omega) (by omega)]
        exact hf
  exact key xs.length 0 (by omega) h

def cl1 (n : Nat) : AV := .one (.fn N69 [.ref n 0])
def Γ1011 : Orc := orcL 20 [(N69, s69)]
theorem Γ1011ok : OrcOk Try.prog Γ1011 := OrcOk.toL 20 (.cons g69 (.nil _))
abbrev live1011 : List (Nat × Dir) := [(0, .keep), (1, .keep), (4, .keep), (7, .keep), (8, .keep), (19, .keep), (20, .keep), (21, .keep), (22, .keep)]
def vs1011 (l : List Term.D) (us : List (List Int)) (s : Kn) (xs : List Int) (r n j : Int) : List AV := [.one (.sl false I none xs), cl1 19, .one (.int .i64 r), .one (.int .i64 n), .one (.int .i64 j)] ++ (env1 19 l us s).map fun o => .gho o.ov
noncomputable abbrev lo1011 (Λ : Lam (AV × List AV)) (K : AE → List AV → Option (AV × List AV)) (fuel : Nat) (vs : List AV) : Option (AV × List AV) :=
  loopN (aexec tb Γ1011 Λ ⟨19, 4, [(0, live1011)]⟩ (loop1 F101).2 0) 19 4 live1011 K fuel vs
theorem step1011 (l : List Term.D) (us : List (List Int)) (s : Kn) (xs : List Int) (r n j : Int) (Λ : Lam (AV × List AV)) (K : AE → List AV → Option (AV × List AV)) (fuel : Nat) : lo1011 Λ K (fuel + 1) (vs1011 l us s xs r n j) =
    bif decide (j < n) then bif inB j xs.length then bif (fun k => inB k s.1.length) (kA xs j) then bif (ans1 s) (kA xs j) then K .ret (vs1011 l us s xs j n j) else lo1011 Λ K fuel (vs1011 l us s xs r n (IntKind.i64.wrap (j + 1))) else none else none
    else K (.exit 0) (vs1011 l us s xs r n j) := by kernel_rfl
def Λ1011 : Lam (AV × List AV) := fun cur vs K =>
  match cur, vs with
  | 0, [.one (.sl false (.int .i64) none xs), .one (.fn f [.ref 19 0]), .one (.int .i64 r), .one (.int .i64 n), .one (.int .i64 0), .gho (.own [.ptr 20 0]), .gho (.own [.sl false (.pair (.int .i64) (.pair (.int .i64) (.int .i64))) none l, .hot 21 none, .hot 22 none, .sl false (.sl (.int .i64)) none us]), .gho (.arr false .bool b), .gho (.arr false (.int .i64) c)] =>
    bif Nat.beq f N69 && (decide (n = xs.length) && (decide (n ≤ 9223372036854775807) && xs.all ((fun k => inB k (b, c).1.length)))) then
      (bif decide (idxFrom ((ans1 (b, c))) xs 0 < 0) then K (.exit 0) (vs1011 l us (b, c) xs r n n) else K .ret (vs1011 l us (b, c) xs (idxFrom ((ans1 (b, c))) xs 0) n (idxFrom ((ans1 (b, c))) xs 0)))
    else none
  | _, _ => none
theorem loop1011 : LoopP tb Γ1011 Λ1011 ⟨19, 4, [(0, live1011)]⟩ (loop1 F101) := by
  intro vs K out h
  have hcur : (loop1 F101).1 = 0 := by kernel_rfl
  rw [hcur] at h ⊢
  unfold Λ1011 at h
  split at h
  · rename_i xs f r n l us b c _
    cases hc : (Nat.beq f N69 && (decide (n = xs.length) && (decide (n ≤ 9223372036854775807) && xs.all ((fun k => inB k (b, c).1.length))))) with
    | false => rw [hc] at h; cases h
    | true =>
      rw [hc] at h
      simp only [cond_true] at h
      simp only [Bool.and_eq_true, decide_eq_true_eq] at hc
      obtain ⟨hf, rfl, hmax, hall⟩ := hc
      obtain rfl := Nat.eq_of_beq_eq_true hf
      exact findC (F := fun fuel j => lo1011 Λ1011 K fuel (vs1011 l us (b, c) xs r xs.length j)) (Kx := fun j => K (.exit 0) (vs1011 l us (b, c) xs r xs.length j)) (Kr := fun j => K .ret (vs1011 l us (b, c) xs j xs.length j))
        (fun fuel j => step1011 l us (b, c) xs r xs.length j Λ1011 K fuel) rfl hmax hall h
  · cases h
theorem r1011 (l : List Term.D) (us : List (List Int)) (s : Kn) (xs : List Int) : runIO Γ1011 Λ1011 4 [(0, live1011)] F101 [.one (.sl false I none xs), cl1 19] (env1 19 l us s) 1 [] =
    bif Nat.beq N69 N69 && (decide ((xs.length : Int) = xs.length) && (decide ((xs.length : Int) ≤ 9223372036854775807) && xs.all ((fun k => inB k s.1.length)))) then
      bif decide (idxFrom ((ans1 s)) xs 0 < 0) then some (.one (.int .i64 (-1)), env1 0 l us s) else some (.one (.int .i64 (idxFrom ((ans1 s)) xs 0)), env1 0 l us s)
    else none := by kernel_rfl
def s101k1 : Sp := .io fun a p gs => match a, p, gs with
  | [.one (.sl false (.int .i64) none xs), .one (.fn f [.ref 0 0])], 1, [g0, g1, g2, g3] => (match Nat.beq f N69, unB g0 1, unMn 1 g1 g2 g3 with
    | true, true, some x => some (xs.all ((fun k => inB k x.2.2.1.length)), .one (.int .i64 (idxFrom ((ans1 x.2.2)) xs 0)), env1 0 x.1 x.2.1 x.2.2)
    | _, _, _ => none)
  | _, _, _ => none
theorem g101k1 : GoodS Try.prog N101 s101k1 := by
  refine GoodS.io (callable_of H101 (bd rfl) (by kernel_rfl)) fun a p gs r gs' hw1 hw2 h => ?_
  split at h
  · rename_i xs f g0 g1 g2 g3
    split at h
    · rename_i x hf h0 h1
      obtain rfl := Nat.eq_of_beq_eq_true hf
      obtain rfl := unB_eq h0
      obtain ⟨rfl, rfl, rfl⟩ := unMn_eq h1
      simp only [Option.some.injEq, Prod.mk.injEq] at h
      obtain ⟨h3, rfl, rfl⟩ := h
      obtain ⟨l, us, s⟩ := x
      simp only at h3
      have hmax : (xs.length : Int) ≤ 9223372036854775807 := by
        have h9 : WF (.sl I) xs := hw1 _ (List.mem_cons_self ..)
        have := h9.1; omega
      have hrun : runIO Γ1011 Λ1011 4 [(0, live1011)] F101 [.one (.sl false I none xs), cl1 19] (env1 19 l us s) 1 [] = some (.one (.int .i64 (idxFrom ((ans1 s)) xs 0)), env1 0 l us s) := by
        rw [r1011, h3, decide_eq_true hmax, decide_eq_true rfl, Nat.beq_refl]
        simp only [Bool.and_true, cond_true]
        rcases idxFrom_ge ((ans1 s)) xs 0 with h | h
        · rw [h]; rfl
        · rw [decide_eq_false (show ¬ idxFrom ((ans1 s)) xs 0 < 0 by omega)]; rfl
      exact goodIO1 Γ1011ok H101 rfl Λ1011 4 [(0, live1011)] (oneLoop (p0 := loop1 F101) (by kernel_rfl) loop1011) [.one (.sl false I none xs), cl1 0] (env1 0 l us s) 1
          (ys := [.one (.sl false I none xs), cl1 19]) (hs := env1 19 l us s) rfl rfl rfl (Nat.le_add_left 1 3) (by show 2 ≤ _; decide) (Nat.le_refl 4) [] hrun (fun x hx => by cases hx; decide)
    · cases h
  · cases h

theorem r671 (l : List Term.D) (us : List (List Int)) (s : Kn) (xs : List Int) : runIO (orcL 10 [(N101, s101k1)]) noL2 4 [] F67 [.one (.sl false I none xs), cl1 9] (env1 9 l us s) 1 [] =
    bif xs.all ((fun k => inB k s.1.length)) then some (.one (.bool (decide (idxFrom ((ans1 s)) xs 0 ≥ 0))), env1 0 l us s) else none := by kernel_rfl
def s67k1 : Sp := .io fun a p gs => match a, p, gs with
  | [.one (.sl false (.int .i64) none xs), .one (.fn f [.ref 0 0])], 1, [g0, g1, g2, g3] => (match Nat.beq f N69, unB g0 1, unMn 1 g1 g2 g3 with
    | true, true, some x => some (xs.all ((fun k => inB k x.2.2.1.length)), .one (.bool (xs.any ((ans1 x.2.2)))), env1 0 x.1 x.2.1 x.2.2)
    | _, _, _ => none)
  | _, _, _ => none
theorem g67k1 : GoodS Try.prog N67 s67k1 := by
  refine GoodS.io (callable_of H67 (bd rfl) (by kernel_rfl)) fun a p gs r gs' hw1 hw2 h => ?_
  split at h
  · rename_i xs f g0 g1 g2 g3
    split at h
    · rename_i x hf h0 h1
      obtain rfl := Nat.eq_of_beq_eq_true hf
      obtain rfl := unB_eq h0
      obtain ⟨rfl, rfl, rfl⟩ := unMn_eq h1
      simp only [Option.some.injEq, Prod.mk.injEq] at h
      obtain ⟨h3, rfl, rfl⟩ := h
      obtain ⟨l, us, s⟩ := x
      simp only at h3
      have hrun : runIO (orcL 10 [(N101, s101k1)]) noL2 4 [] F67 [.one (.sl false I none xs), cl1 9] (env1 9 l us s) 1 [] = some (.one (.bool (xs.any ((ans1 s)))), env1 0 l us s) := by
        rw [r671, h3, idx_any _ _ _ (Int.le_refl 0)]; rfl
      exact goodIO1 (OrcOk.toL 10 (.cons g101k1 (.nil _))) H67 rfl noL2 4 [] (noLoops (by kernel_rfl)) [.one (.sl false I none xs), cl1 0] (env1 0 l us s) 1
          (ys := [.one (.sl false I none xs), cl1 9]) (hs := env1 9 l us s) rfl rfl rfl (Nat.le_add_left 1 3) (by show 2 ≤ _; decide) (Nat.le_refl 4) [] hrun (fun x hx => by cases hx; decide)
    · cases h
  · cases h

def cl2 (n : Nat) : AV := .one (.fn N71 [.ref n 0, .ref (n + 1) 0])
def Γ1012 : Orc := orcL 21 [(N71, s71)]
theorem Γ1012ok : OrcOk Try.prog Γ1012 := OrcOk.toL 21 (.cons g71 (.nil _))
abbrev live1012 : List (Nat × Dir) := [(0, .keep), (1, .keep), (4, .keep), (7, .keep), (8, .keep), (19, .keep), (20, .keep), (21, .keep), (22, .keep), (23, .keep)]
def vs1012 (l : List Term.D) (us : List (List Int)) (s : Kn) (i : Int) (xs : List Int) (r n j : Int) : List AV := [.one (.sl false I none xs), cl2 19, .one (.int .i64 r), .one (.int .i64 n), .one (.int .i64 j)] ++ (env2 19 l us s i).map fun o => .gho o.ov
noncomputable abbrev lo1012 (Λ : Lam (AV × List AV)) (K : AE → List AV → Option (AV × List AV)) (fuel : Nat) (vs : List AV) : Option (AV × List AV) :=
  loopN (aexec tb Γ1012 Λ ⟨19, 5, [(0, live1012)]⟩ (loop1 F101).2 0) 19 5 live1012 K fuel vs
theorem step1012 (l : List Term.D) (us : List (List Int)) (s : Kn) (i : Int) (xs : List Int) (r n j : Int) (Λ : Lam (AV × List AV)) (K : AE → List AV → Option (AV × List AV)) (fuel : Nat) : lo1012 Λ K (fuel + 1) (vs1012 l us s i xs r n j) =
    bif decide (j < n) then bif inB j xs.length then bif (ok71 l s) (kA xs j) then bif (ans2 l s i) (kA xs j) then K .ret (vs1012 l us s i xs j n j) else lo1012 Λ K fuel (vs1012 l us s i xs r n (IntKind.i64.wrap (j + 1))) else none else none
    else K (.exit 0) (vs1012 l us s i xs r n j) := by kernel_rfl
def Λ1012 : Lam (AV × List AV) := fun cur vs K =>
  match cur, vs with
  | 0, [.one (.sl false (.int .i64) none xs), .one (.fn f [.ref 19 0, .ref 20 0]), .one (.int .i64 r), .one (.int .i64 n), .one (.int .i64 0), .gho (.own [.ptr 21 0]), .gho (.own [.int .i64 i]), .gho (.own [.sl false (.pair (.int .i64) (.pair (.int .i64) (.int .i64))) none l, .hot 22 none, .hot 23 none, .sl false (.sl (.int .i64)) none us]), .gho (.arr false .bool b), .gho (.arr false (.int .i64) c)] =>
    bif Nat.beq f N71 && (decide (n = xs.length) && (decide (n ≤ 9223372036854775807) && xs.all ((ok71 l (b, c))))) then
      (bif decide (idxFrom ((ans2 l (b, c) i)) xs 0 < 0) then K (.exit 0) (vs1012 l us (b, c) i xs r n n) else K .ret (vs1012 l us (b, c) i xs (idxFrom ((ans2 l (b, c) i)) xs 0) n (idxFrom ((ans2 l (b, c) i)) xs 0)))
    else none
  | _, _ => none
theorem loop1012 : LoopP tb Γ1012 Λ1012 ⟨19, 5, [(0, live1012)]⟩ (loop1 F101) := by
  intro vs K out h
  have hcur : (loop1 F101).1 = 0 := by kernel_rfl
  rw [hcur] at h ⊢
  unfold Λ1012 at h
  split at h
  · rename_i xs f r n i l us b c _
    cases hc : (Nat.beq f N71 && (decide (n = xs.length) && (decide (n ≤ 9223372036854775807) && xs.all ((ok71 l (b, c)))))) with
    | false => rw [hc] at h; cases h
    | true =>
      rw [hc] at h
      simp only [cond_true] at h
      simp only [Bool.and_eq_true, decide_eq_true_eq] at hc
      obtain ⟨hf, rfl, hmax, hall⟩ := hc
      obtain rfl := Nat.eq_of_beq_eq_true hf
      exact findC (F := fun fuel j => lo1012 Λ1012 K fuel (vs1012 l us (b, c) i xs r xs.length j)) (Kx := fun j => K (.exit 0) (vs1012 l us (b, c) i xs r xs.length j)) (Kr := fun j => K .ret (vs1012 l us (b, c) i xs j xs.length j))
        (fun fuel j => step1012 l us (b, c) i xs r xs.length j Λ1012 K fuel) rfl hmax hall h
  · cases h
theorem r1012 (l : List Term.D) (us : List (List Int)) (s : Kn) (i : Int) (xs : List Int) : runIO Γ1012 Λ1012 5 [(0, live1012)] F101 [.one (.sl false I none xs), cl2 19] (env2 19 l us s i) 2 [] =
    bif Nat.beq N71 N71 && (decide ((xs.length : Int) = xs.length) && (decide ((xs.length : Int) ≤ 9223372036854775807) && xs.all ((ok71 l s)))) then
      bif decide (idxFrom ((ans2 l s i)) xs 0 < 0) then some (.one (.int .i64 (-1)), env2 0 l us s i) else some (.one (.int .i64 (idxFrom ((ans2 l s i)) xs 0)), env2 0 l us s i)
    else none := by kernel_rfl
def s101k2 : Sp := .io fun a p gs => match a, p, gs with
  | [.one (.sl false (.int .i64) none xs), .one (.fn f [.ref 0 0, .ref 1 0])], 2, [g0, gi, g1, g2, g3] => (match Nat.beq f N71, unB g0 2, unI gi, unMn 2 g1 g2 g3 with
    | true, true, some i, some x => some (xs.all ((ok71 x.1 x.2.2)), .one (.int .i64 (idxFrom ((ans2 x.1 x.2.2 i)) xs 0)), env2 0 x.1 x.2.1 x.2.2 i)
    | _, _, _, _ => none)
  | _, _, _ => none
theorem g101k2 : GoodS Try.prog N101 s101k2 := by
  refine GoodS.io (callable_of H101 (bd rfl) (by kernel_rfl)) fun a p gs r gs' hw1 hw2 h => ?_
  split at h
  · rename_i xs f g0 gi g1 g2 g3
    split at h
    · rename_i i x hf h0 h1 h2
      obtain rfl := Nat.eq_of_beq_eq_true hf
      obtain rfl := unB_eq h0
      obtain rfl := unI_eq h1
      obtain ⟨rfl, rfl, rfl⟩ := unMn_eq h2
      simp only [Option.some.injEq, Prod.mk.injEq] at h
      obtain ⟨h3, rfl, rfl⟩ := h
      obtain ⟨l, us, s⟩ := x
      simp only at h3
      have hmax : (xs.length : Int) ≤ 9223372036854775807 := by
        have h9 : WF (.sl I) xs := hw1 _ (List.mem_cons_self ..)
        have := h9.1; omega
      have hrun : runIO Γ1012 Λ1012 5 [(0, live1012)] F101 [.one (.sl false I none xs), cl2 19] (env2 19 l us s i) 2 [] = some (.one (.int .i64 (idxFrom ((ans2 l s i)) xs 0)), env2 0 l us s i) := by
        rw [r1012, h3, decide_eq_true hmax, decide_eq_true rfl, Nat.beq_refl]
        simp only [Bool.and_true, cond_true]
        rcases idxFrom_ge ((ans2 l s i)) xs 0 with h | h
        · rw [h]; rfl
        · rw [decide_eq_false (show ¬ idxFrom ((ans2 l s i)) xs 0 < 0 by omega)]; rfl
      exact goodIO1 Γ1012ok H101 rfl Λ1012 5 [(0, live1012)] (oneLoop (p0 := loop1 F101) (by kernel_rfl) loop1012) [.one (.sl false I none xs), cl2 0] (env2 0 l us s i) 2
          (ys := [.one (.sl false I none xs), cl2 19]) (hs := env2 19 l us s i) rfl rfl rfl (Nat.le_add_left 2 3) (by show 2 ≤ _; decide) (Nat.le_refl 5) [] hrun (fun x hx => by cases hx; decide)
    · cases h
  · cases h

theorem r672 (l : List Term.D) (us : List (List Int)) (s : Kn) (i : Int) (xs : List Int) : runIO (orcL 11 [(N101, s101k2)]) noL2 5 [] F67 [.one (.sl false I none xs), cl2 9] (env2 9 l us s i) 2 [] =
    bif xs.all ((ok71 l s)) then some (.one (.bool (decide (idxFrom ((ans2 l s i)) xs 0 ≥ 0))), env2 0 l us s i) else none := by kernel_rfl
def s67k2 : Sp := .io fun a p gs => match a, p, gs with
  | [.one (.sl false (.int .i64) none xs), .one (.fn f [.ref 0 0, .ref 1 0])], 2, [g0, gi, g1, g2, g3] => (match Nat.beq f N71, unB g0 2, unI gi, unMn 2 g1 g2 g3 with
    | true, true, some i, some x => some (xs.all ((ok71 x.1 x.2.2)), .one (.bool (xs.any ((ans2 x.1 x.2.2 i)))), env2 0 x.1 x.2.1 x.2.2 i)
    | _, _, _, _ => none)
  | _, _, _ => none
theorem g67k2 : GoodS Try.prog N67 s67k2 := by
  refine GoodS.io (callable_of H67 (bd rfl) (by kernel_rfl)) fun a p gs r gs' hw1 hw2 h => ?_
  split at h
  · rename_i xs f g0 gi g1 g2 g3
    split at h
    · rename_i i x hf h0 h1 h2
      obtain rfl := Nat.eq_of_beq_eq_true hf
      obtain rfl := unB_eq h0
      obtain rfl := unI_eq h1
      obtain ⟨rfl, rfl, rfl⟩ := unMn_eq h2
      simp only [Option.some.injEq, Prod.mk.injEq] at h
      obtain ⟨h3, rfl, rfl⟩ := h
      obtain ⟨l, us, s⟩ := x
      simp only at h3
      have hrun : runIO (orcL 11 [(N101, s101k2)]) noL2 5 [] F67 [.one (.sl false I none xs), cl2 9] (env2 9 l us s i) 2 [] = some (.one (.bool (xs.any ((ans2 l s i)))), env2 0 l us s i) := by
        rw [r672, h3, idx_any _ _ _ (Int.le_refl 0)]; rfl
      exact goodIO1 (OrcOk.toL 11 (.cons g101k2 (.nil _))) H67 rfl noL2 5 [] (noLoops (by kernel_rfl)) [.one (.sl false I none xs), cl2 0] (env2 0 l us s i) 2
          (ys := [.one (.sl false I none xs), cl2 9]) (hs := env2 9 l us s i) rfl rfl rfl (Nat.le_add_left 2 3) (by show 2 ≤ _; decide) (Nat.le_refl 5) [] hrun (fun x hx => by cases hx; decide)
    · cases h
  · cases h
end Go.AM.Seat
