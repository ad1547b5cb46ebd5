/- know.learn. -/
import Derived.Test.YtnkdeglckmogcaaSeKX
import Derived.Test.YtnkdeglckmogcaaAmHot
set_option linter.unusedVariables false
set_option maxRecDepth 100000
namespace Go.AM.Seat
open Go Go.AM Go.Proofs
abbrev live63 : List (Nat × Dir) := [(0, .keep), (6, .keep), (7, .keep), (8, .keep), (33, .keep), (37, .keep), (38, .keep), (39, .keep)]
def obM (n k : Nat) (l : List Term.D) (us : List (List Int)) : AV := .own [.sl false Term none l, .hot n none, .hot k none, .sl false (.sl I) none us]
def vsA63 (l : List Term.D) (us : List (List Int)) (ls : List Int) (n i : Int) (b : List Bool) (c : List Int) : List AV :=
  [.one (.ptr 37 0), .one (.sl false I none ls), .one (.int .i64 n), .one (.int .i64 i), .one .junk, .gho (obM 38 39 l us).ov, .gho (.arr false .bool b), .gho (.arr false I c)]
def vsB63 (l : List Term.D) (us : List (List Int)) (ls : List Int) (n i : Int) (b : List Bool) (c : List Int) : List AV :=
  [.one (.ptr 37 0), .one (.sl false I none ls), .one (.int .i64 n), .one (.int .i64 i), .arr true I c, .gho (obM 38 33 l us).ov, .gho (.arr false .bool b), .gho .none]
noncomputable def lk63 : Nat × Code := (loopsOf 0 (body F63)).headD (0, .skip)
noncomputable abbrev lo63 (Λ : Lam (AV × List AV)) (K : AE → List AV → Option (AV × List AV)) (fuel : Nat) (vs : List AV) : Option (AV × List AV) := loopN (aexec tb (orc []) Λ ⟨37, 3, [(0, live63)]⟩ lk63.2 0) 37 3 live63 K fuel vs
theorem stepA63 (l : List Term.D) (us : List (List Int)) (ls : List Int) (n i : Int) (b : List Bool) (c : List Int) (Λ : Lam (AV × List AV)) (K : AE → List AV → Option (AV × List AV)) (fuel : Nat) : lo63 Λ K (fuel + 1) (vsA63 l us ls n i b c) =
    bif decide (i < n) then bif inB i ls.length then bif inB (kA ls i) b.length then
      bif !b.getD (Int.toNat (kA ls i)) Ty.bool.dflt then bif inB (kA ls i) b.length then bif kRoom (c.length + [kA ls i].length) then
        lo63 Λ K fuel (vsB63 l us ls n (IntKind.i64.wrap (i + 1)) (b.set (Int.toNat (kA ls i)) true) (c ++ [kA ls i])) else none else none
      else lo63 Λ K fuel (vsA63 l us ls n (IntKind.i64.wrap (i + 1)) b c)
    else none else none else K (.exit 0) (vsA63 l us ls n i b c) := by kernel_rfl
theorem stepB63 (l : List Term.D) (us : List (List Int)) (ls : List Int) (n i : Int) (b : List Bool) (c : List Int) (Λ : Lam (AV × List AV)) (K : AE → List AV → Option (AV × List AV)) (fuel : Nat) : lo63 Λ K (fuel + 1) (vsB63 l us ls n i b c) =
    bif decide (i < n) then bif inB i ls.length then bif inB (kA ls i) b.length then
      bif !b.getD (Int.toNat (kA ls i)) Ty.bool.dflt then bif inB (kA ls i) b.length then bif kRoom (c.length + [kA ls i].length) then
        lo63 Λ K fuel (vsB63 l us ls n (IntKind.i64.wrap (i + 1)) (b.set (Int.toNat (kA ls i)) true) (c ++ [kA ls i])) else none else none
      else lo63 Λ K fuel (vsB63 l us ls n (IntKind.i64.wrap (i + 1)) b c)
    else none else none else K (.exit 0) (vsB63 l us ls n i b c) := by kernel_rfl
/-- What is known, and in what order it came. -/
abbrev Kn := List Bool × List Int
def learn1 (s : Kn) (x : Int) : Kn := bif mAt s.1 x then s else (s.1.set x.toNat true, s.2 ++ [x])
def learnL (s : Kn) (ls : List Int) : Kn := ls.foldl learn1 s
theorem learn1_len (s : Kn) (x : Int) : (learn1 s x).1.length = s.1.length ∧ (learn1 s x).2.length ≤ s.2.length + 1 := by
  unfold learn1
  cases mAt s.1 x <;> simp
def same63 (b : List Bool) (ls : List Int) : Bool := ls.all (mAt b)
theorem learnL_same {b : List Bool} {c : List Int} : ∀ {ls : List Int}, same63 b ls = true → learnL (b, c) ls = (b, c) := by
  intro ls
  induction ls with
  | nil => intro _; rfl
  | cons x ls ih =>
    intro h
    simp only [same63, List.all_cons, Bool.and_eq_true] at h
    show learnL (learn1 (b, c) x) ls = _
    have : learn1 (b, c) x = (b, c) := by unfold learn1; simp only [h.1, cond_true]
    rw [this]; exact ih h.2
def Λ63 : Lam (AV × List AV) := fun cur vs K =>
  match cur, vs with
  | 0, [.one (.ptr 37 0), .one (.sl false (.int .i64) none ls), .one (.int .i64 n), .one (.int .i64 0), .one .junk, .gho (.own [.sl false (.pair (.int .i64) (.pair (.int .i64) (.int .i64))) none l, .hot 38 none, .hot 39 none, .sl false (.sl (.int .i64)) none us]), .gho (.arr false .bool b), .gho (.arr false (.int .i64) c)] =>
    bif decide (n = ls.length) && (decide (n ≤ 9223372036854775807) && (kRoom (c.length + ls.length) && ls.all fun x => inB x b.length)) then
      bif same63 b ls then K (.exit 0) (vsA63 l us ls n n b c) else K (.exit 0) (vsB63 l us ls n n (learnL (b, c) ls).1 (learnL (b, c) ls).2)
    else none
  | _, _ => none
theorem mAt_eq (b : List Bool) (x : Int) : b.getD (Int.toNat x) Ty.bool.dflt = mAt b x := rfl
theorem loop63 : LoopP tb (orc []) Λ63 ⟨37, 3, [(0, live63)]⟩ lk63 := by
  intro vs K out h
  have hcur : lk63.1 = 0 := by kernel_rfl
  rw [hcur] at h ⊢
  unfold Λ63 at h
  split at h
  · rename_i ls n l us b c _
    cases hc : (decide (n = ls.length) && (decide (n ≤ 9223372036854775807) && (kRoom (c.length + ls.length) && ls.all fun x => inB x b.length))) with
    | false => rw [hc] at h; cases h
    | true =>
      rw [hc] at h
      simp only [cond_true] at h
      simp only [Bool.and_eq_true, decide_eq_true_eq] at hc
      obtain ⟨rfl, hmax, hroom, hall⟩ := hc
      have hroom : (c.length + ls.length) * 8 ≤ 140737488355328 := of_decide_eq_true hroom
      have hin : ∀ j, j < ls.length → inB (kA ls j) b.length = true := fun j hj => List.all_eq_true.1 hall _ (by unfold kA; simp [hj])
      have keyB : ∀ (m j : Nat) (b' : List Bool) (c' : List Int), j + m = ls.length → b'.length = b.length → c'.length ≤ c.length + j →
          K (.exit 0) (vsB63 l us ls ls.length ls.length (learnL (b', c') (ls.drop j)).1 (learnL (b', c') (ls.drop j)).2) = some out → ∃ fuel, lo63 Λ63 K fuel (vsB63 l us ls ls.length j b' c') = some out := by
        intro m
        induction m with
        | zero =>
          intro j b' c' hj _ _ h
          obtain rfl : j = ls.length := by omega
          rw [List.drop_length] at h
          exact ⟨1, by rw [stepB63, nlt_dec]; exact h⟩
        | succ m ih =>
          intro j b' c' hj hb hl h
          have hlt : j < ls.length := by omega
          have hi := hin j hlt
          rw [← hb] at hi
          rw [kA_drop hlt] at h
          cases hx : mAt b' (kA ls j) with
          | true =>
            have e : learnL (b', c') (kA ls j :: ls.drop (j + 1)) = learnL (b', c') (ls.drop (j + 1)) := by
              show learnL (learn1 (b', c') (kA ls j)) _ = _
              have : learn1 (b', c') (kA ls j) = (b', c') := by unfold learn1; simp only [hx, cond_true]
              rw [this]
            rw [e] at h
            obtain ⟨fuel, hf⟩ := ih (j + 1) b' c' (by omega) hb (by omega) h
            refine ⟨fuel + 1, ?_⟩
            rw [stepB63, lt_dec hlt, inB_lt hlt, hi, mAt_eq, hx, wrap64 (n := (j : Int) + 1) (by omega) (by omega)]
            exact hf
          | false =>
            have e : learnL (b', c') (kA ls j :: ls.drop (j + 1)) = learnL (b'.set (kA ls j).toNat true, c' ++ [kA ls j]) (ls.drop (j + 1)) := by
              show learnL (learn1 (b', c') (kA ls j)) _ = _
              have : learn1 (b', c') (kA ls j) = (b'.set (kA ls j).toNat true, c' ++ [kA ls j]) := by unfold learn1; simp only [hx, cond_false]
              rw [this]
            rw [e] at h
            obtain ⟨fuel, hf⟩ := ih (j + 1) _ _ (by omega) (by rw [List.length_set]; exact hb) (by rw [List.length_append]; simp; omega) h
            refine ⟨fuel + 1, ?_⟩
            rw [stepB63, lt_dec hlt, inB_lt hlt, hi, mAt_eq, hx, show kRoom (c'.length + [kA ls j].length) = true from decide_eq_true (by simp; omega), wrap64 (n := (j : Int) + 1) (by omega) (by omega)]
            exact hf
      have keyA : ∀ (m j : Nat), j + m = ls.length →
          (bif same63 b (ls.drop j) then K (.exit 0) (vsA63 l us ls ls.length ls.length b c) else K (.exit 0) (vsB63 l us ls ls.length ls.length (learnL (b, c) (ls.drop j)).1 (learnL (b, c) (ls.drop j)).2)) = some out →
          ∃ fuel, lo63 Λ63 K fuel (vsA63 l us ls ls.length j b c) = some out := by
        intro m
        induction m with
        | zero =>
          intro j hj h
          obtain rfl : j = ls.length := by omega
          rw [List.drop_length] at h
          exact ⟨1, by rw [stepA63, nlt_dec]; exact h⟩
        | succ m ih =>
          intro j hj h
          have hlt : j < ls.length := by omega
          have hi := hin j hlt
          rw [kA_drop hlt] at h
          cases hx : mAt b (kA ls j) with
          | true =>
            have e : learnL (b, c) (kA ls j :: ls.drop (j + 1)) = learnL (b, c) (ls.drop (j + 1)) := by
              show learnL (learn1 (b, c) (kA ls j)) _ = _
              have : learn1 (b, c) (kA ls j) = (b, c) := by unfold learn1; simp only [hx, cond_true]
              rw [this]
            have e2 : same63 b (kA ls j :: ls.drop (j + 1)) = same63 b (ls.drop (j + 1)) := by unfold same63; rw [List.all_cons, hx, Bool.true_and]
            rw [e, e2] at h
            obtain ⟨fuel, hf⟩ := ih (j + 1) (by omega) h
            refine ⟨fuel + 1, ?_⟩
            rw [stepA63, lt_dec hlt, inB_lt hlt, hi, mAt_eq, hx, wrap64 (n := (j : Int) + 1) (by omega) (by omega)]
            exact hf
          | false =>
            have e : learnL (b, c) (kA ls j :: ls.drop (j + 1)) = learnL (b.set (kA ls j).toNat true, c ++ [kA ls j]) (ls.drop (j + 1)) := by
              show learnL (learn1 (b, c) (kA ls j)) _ = _
              have : learn1 (b, c) (kA ls j) = (b.set (kA ls j).toNat true, c ++ [kA ls j]) := by unfold learn1; simp only [hx, cond_false]
              rw [this]
            have e2 : same63 b (kA ls j :: ls.drop (j + 1)) = false := by unfold same63; rw [List.all_cons, hx, Bool.false_and]
            rw [e, e2] at h
            obtain ⟨fuel, hf⟩ := keyB m (j + 1) (b.set (kA ls j).toNat true) (c ++ [kA ls j]) (by omega) (by rw [List.length_set]) (by rw [List.length_append]; simp) h
            refine ⟨fuel + 1, ?_⟩
            rw [stepA63, lt_dec hlt, inB_lt hlt, hi, mAt_eq, hx, show kRoom (c.length + [kA ls j].length) = true from decide_eq_true (by simp; omega), wrap64 (n := (j : Int) + 1) (by omega) (by omega)]
            exact hf
      exact keyA ls.length 0 (by omega) h
  · cases h
theorem r63 (l : List Term.D) (us : List (List Int)) (ls : List Int) (b : List Bool) (c : List Int) : runIO (orc []) Λ63 3 [(0, live63)] F63 [.one (.ptr 37 0), .one (.sl false I none ls)] [obM 38 39 l us, .arr false .bool b, .arr false I c] 1 [] =
    bif decide ((ls.length : Int) = ls.length) && (decide ((ls.length : Int) ≤ 9223372036854775807) && (kRoom (c.length + ls.length) && ls.all fun x => inB x b.length)) then
      bif same63 b ls then some (.tup [], [obM 1 2 l us, .arr false .bool b, .arr false I c]) else some (.tup [], [obM 1 2 l us, .arr false .bool (learnL (b, c) ls).1, .arr true I (learnL (b, c) ls).2])
    else none := by kernel_rfl
def unM : AV → AV → AV → Option (List Term.D × List (List Int) × Kn)
  | .own [.sl false (.pair (.int .i64) (.pair (.int .i64) (.int .i64))) none l, .hot 1 none, .hot 2 none, .sl false (.sl (.int .i64)) none us], .arr false .bool b, .arr false (.int .i64) c => some (l, us, b, c)
  | _, _, _ => none
theorem unM_eq {a g k : AV} {x : List Term.D × List (List Int) × Kn} (h : unM a g k = some x) : a = obM 1 2 x.1 x.2.1 ∧ g = .arr false .bool x.2.2.1 ∧ k = .arr false I x.2.2.2 := by
  unfold unM at h
  split at h
  · cases h; exact ⟨rfl, rfl, rfl⟩
  · cases h
def okLearn (s : Kn) (ls : List Int) : Bool := decide ((ls.length : Int) ≤ 9223372036854775807) && (kRoom (s.2.length + ls.length) && ls.all fun x => inB x s.1.length)
def s63 : Sp := .io fun a p gs => match a, p, gs with
  | [.one (.ptr 0 0), .one (.sl false (.int .i64) none ls)], 1, [g1, g2, g3] => (match unM g1 g2 g3 with
    | some x => some (okLearn x.2.2 ls, .tup [], [obM 1 2 x.1 x.2.1, .arr false .bool (learnL x.2.2 ls).1, .arr false I (learnL x.2.2 ls).2])
    | none => none)
  | _, _, _ => none
theorem g63 : GoodS Try.prog N63 s63 := by
  refine GoodS.io (callable_of H63 (bd rfl) (by kernel_rfl)) fun a p gs r gs' hw1 hw2 h => ?_
  clear hw1 hw2
  split at h
  · rename_i ls g1 g2 g3
    split at h
    · rename_i x hx
      obtain ⟨rfl, rfl, rfl⟩ := unM_eq hx
      simp only [Option.some.injEq, Prod.mk.injEq] at h
      obtain ⟨h1, rfl, rfl⟩ := h
      obtain ⟨l, us, b, c⟩ := x
      have hrun := r63 l us ls b c
      simp only [okLearn] at h1
      rw [h1, decide_eq_true rfl] at hrun
      simp only [Bool.true_and, cond_true] at hrun
      have key : ∀ {r : AV} {gs' : List AV}, runIO (orc []) Λ63 3 [(0, live63)] F63 [.one (.ptr 37 0), .one (.sl false I none ls)] [obM 38 39 l us, .arr false .bool b, .arr false I c] 1 [] = some (r, gs') → GoodIO Try.prog N63 [.one (.ptr 0 0), .one (.sl false I none ls)] 1 [obM 1 2 l us, .arr false .bool b, .arr false I c] r gs' := fun h =>
        goodIO1 (.nil _) H63 rfl Λ63 3 [(0, live63)] (oneLoop (p0 := lk63) (by kernel_rfl) loop63) [.one (.ptr 0 0), .one (.sl false I none ls)] [obM 1 2 l us, .arr false .bool b, .arr false I c] 1
          (ys := [.one (.ptr 37 0), .one (.sl false I none ls)]) (hs := [obM 38 39 l us, .arr false .bool b, .arr false I c]) rfl rfl rfl (Nat.le_add_left 1 2) (by show 2 ≤ _; decide) (Nat.le_refl 3) [] h
      cases hs : same63 b ls with
      | true =>
        rw [hs] at hrun
        simp only [learnL_same hs]
        exact (key hrun).lax
      | false =>
        rw [hs] at hrun
        exact (key hrun).lax
    · cases h
  · cases h
end Go.AM.Seat
