/- the laws of know: KnowJoin. -/
import Derived.Test.YtnkdeglckmogcaaSeKMo
set_option linter.unusedVariables false
set_option linter.unusedSimpArgs false
set_option maxRecDepth 100000
namespace Go.AM.Seat
open Go Go.AM Go.Proofs
noncomputable def Γ7 : Orc := orc [(N28, s28), (N29, s29), (N30, s30), (N32, s32)]
abbrev live7 : List (Nat × List (Nat × Dir)) := [(0, [(8, .keep), (9, .keep), (10, .keep), (12, .keep), (14, .keep), (16, .keep), (86, .keep), (87, .keep), (88, .keep)]), (2, [(8, .keep), (9, .keep), (10, .keep), (12, .keep), (14, .keep), (16, .keep), (86, .keep), (87, .keep), (88, .keep), (19, .keep), (20, .keep), (92, .keep), (93, .keep), (94, .keep)])]
/-- The answers so far: returned, live, what each knows. -/
abbrev B5 := Bool × Bool × Bool × Bool × Bool
def vo7 (q : B5) (a b : List Int) (n i : Int) : List AV := [.one (.bool q.1), .one (.bool q.2.1), .one (.bool q.2.2.1), .one (.bool q.2.2.2.1), .one (.bool q.2.2.2.2), .one (.sl true I none a), .one (.sl false I none b), .one (.int .i64 n), .one (.int .i64 i)]
def vi7 (q : B5) (a b : List Int) (n i k : Int) (has : Bool) (m j : Int) : List AV := vo7 q a b n i ++ [.one (.int .i64 k), .one (.bool has), .one (.sl true I none a), .one (.int .i64 m), .one (.int .i64 j)]
noncomputable def lk7 (k : Nat) : Nat × Code := (loopsOf 0 (body F7)).getD k (0, .skip)
noncomputable abbrev lo7 (k c : Nat) (Λ : Lam AV) (K : AE → List AV → Option AV) (fuel : Nat) (vs : List AV) : Option AV := loopN (aexec tb Γ7 Λ ⟨122, 0, live7⟩ (lk7 k).2 c) 122 0 (Lay.get ⟨122, 0, live7⟩ c) K fuel vs
def hasF (k : Int) : List Int → Bool → Bool
  | [], h => h
  | v :: r, h => hasF k r (bif h then true else v == k)
noncomputable def Λ7 : Lam AV := fun cur vs K =>
  match cur, vs with
  | 0, [.one (.bool r), .one (.bool up), .one (.bool x), .one (.bool y), .one (.bool z), .one (.sl true (.int .i64) none a), .one (.sl false (.int .i64) none b), .one (.int .i64 n), .one (.int .i64 0)] =>
    bif decide (n = b.length) && (decide (n ≤ 9223372036854775807) && decide (a.length ≤ 1000000)) then
      (bif decide (idxN (fun i => !hasF (kA b i) a false) b.length 0 < 0) then K (.exit 0) (vo7 (r, up, x, y, z) a b n n) else K .ret (vo7 (up, up, x, y, z) a b n (idxN (fun i => !hasF (kA b i) a false) b.length 0)))
    else none
  | 2, [.one (.bool r), .one (.bool up), .one (.bool x), .one (.bool y), .one (.bool z), .one (.sl true (.int .i64) none a), .one (.sl false (.int .i64) none b), .one (.int .i64 n), .one (.int .i64 i), .one (.int .i64 k), .one (.bool has), .one (.sl true (.int .i64) none a'), .one (.int .i64 m), .one (.int .i64 0)] =>
    bif decide (m = a.length) && (decide (a.length ≤ 1000000) && @decide (a' = a) (Classical.propDecidable _)) then K (.exit 2) (vi7 (r, up, x, y, z) a b n i k (hasF k a has) m m) else none
  | _, _ => none
theorem stepI7 (q : B5) (a b : List Int) (n i k : Int) (has : Bool) (m j : Int) (Λ : Lam AV) (K : AE → List AV → Option AV) (fuel : Nat) : lo7 1 2 Λ K (fuel + 1) (vi7 q a b n i k has m j) =
    bif decide (j < m) then bif inB j a.length then lo7 1 2 Λ K fuel (vi7 q a b n i k (bif has then true else kA a j == k) m (IntKind.i64.wrap (j + 1))) else none else K (.exit 2) (vi7 q a b n i k has m j) := by kernel_rfl
noncomputable def cI7 (a : List Int) : Bool := decide ((a.length : Int) = a.length) && (decide (a.length ≤ 1000000) && @decide (a = a) (Classical.propDecidable _))
theorem stepO7 (q : B5) (a b : List Int) (n i : Int) (K : AE → List AV → Option AV) (fuel : Nat) : lo7 0 0 Λ7 K (fuel + 1) (vo7 q a b n i) =
    bif decide (i < n) then bif inB i b.length then bif cI7 a then
      bif !hasF (kA b i) a false then K .ret (vo7 (q.2.1, q.2) a b n i) else lo7 0 0 Λ7 K fuel (vo7 q a b n (IntKind.i64.wrap (i + 1)))
    else none else none else K (.exit 0) (vo7 q a b n i) := by kernel_rfl
theorem loopI7 : LoopP tb Γ7 Λ7 ⟨122, 0, live7⟩ (lk7 1) := by
  intro vs K out h
  have hcur : (lk7 1).1 = 2 := by kernel_rfl
  rw [hcur] at h ⊢
  unfold Λ7 at h
  split at h
  · exact absurd (show (2 : Nat) = 0 by assumption) (by decide)
  · rename_i r up x y z a b n i k has a' m _
    cases hc : (decide (m = a.length) && (decide (a.length ≤ 1000000) && @decide (a' = a) (Classical.propDecidable _))) with
    | false => rw [hc] at h; cases h
    | true =>
      rw [hc] at h
      simp only [cond_true] at h
      rw [Bool.and_eq_true, Bool.and_eq_true] at hc
      obtain ⟨h1, h2, h3⟩ := hc
      have h1 := of_decide_eq_true h1
      have h2 := of_decide_eq_true h2
      obtain rfl := (@of_decide_eq_true _ (Classical.propDecidable _) h3).symm
      subst h1
      have key : ∀ (m j : Nat) (has : Bool), j + m = a.length → K (.exit 2) (vi7 (r, up, x, y, z) a b n i k (hasF k (a.drop j) has) a.length a.length) = some out → ∃ fuel, lo7 1 2 Λ7 K fuel (vi7 (r, up, x, y, z) a b n i k has a.length j) = some out := by
        intro m
        induction m with
        | zero =>
          intro j has hj h
          obtain rfl : j = a.length := by omega
          rw [List.drop_length] at h
          exact ⟨1, by rw [stepI7, nlt_dec]; exact h⟩
        | succ m ih =>
          intro j has hj h
          have hlt : j < a.length := by omega
          rw [kA_drop hlt, hasF] at h
          obtain ⟨fuel, hf⟩ := ih (j + 1) _ (by omega) h
          exact ⟨fuel + 1, by rw [stepI7, lt_dec hlt, inB_lt hlt, wrap64 (n := (j : Int) + 1) (by omega) (by omega)]; exact hf⟩
      exact key a.length 0 has (by omega) h
  · cases h
theorem loopO7 : LoopP tb Γ7 Λ7 ⟨122, 0, live7⟩ (lk7 0) := by
  intro vs K out h
  have hcur : (lk7 0).1 = 0 := by kernel_rfl
  rw [hcur] at h ⊢
  unfold Λ7 at h
  split at h
  · rename_i r up x y z a b n _
    cases hc : (decide (n = b.length) && (decide (n ≤ 9223372036854775807) && decide (a.length ≤ 1000000))) with
    | false => rw [hc] at h; cases h
    | true =>
      rw [hc] at h
      simp only [cond_true] at h
      simp only [Bool.and_eq_true, decide_eq_true_eq] at hc
      obtain ⟨rfl, hmax, hal⟩ := hc
      have hci : cI7 a = true := by unfold cI7; rw [decide_eq_true rfl, decide_eq_true hal, @decide_eq_true _ (Classical.propDecidable _) rfl]; rfl
      refine findN (ok := fun i => inB i b.length) (ans := fun i => !hasF (kA b i) a false) (F := fun fuel i => lo7 0 0 Λ7 K fuel (vo7 (r, up, x, y, z) a b b.length i)) (Kx := fun i => K (.exit 0) (vo7 (r, up, x, y, z) a b b.length i)) (Kr := fun i => K .ret (vo7 (up, up, x, y, z) a b b.length i)) hmax
        (fun fuel i => (stepO7 (r, up, x, y, z) a b b.length i K fuel).trans ?_) (fun j hj => inB_lt hj) h
      rw [hci]; rfl
  · exact absurd (show (0 : Nat) = 2 by assumption) (by decide)
  · cases h
def fin7 (x y z : Bool) : Bool := bif (bif !y then true else x) then z == x else false
theorem r7 (l : List Term.D) (h m : List Int) (i : Int) : run Γ7 Λ7 live7 F7 [.one (.sl false Term none l), .one (.sl false I none h), .one (.sl false I none m), .one (.int .i64 i)] [] =
    bif !fewK l [h, m] then some (.one (.bool true)) else bif nRoom h.length then bif nRoom (h.length + m.length) then
      bif (bif (knowsK l h i).2 != 0 then true else (knowsK l m i).2 != 0) then some (.one (.bool true)) else
      bif (bif (bif (knowsK l (h ++ m) i).2 != 0 then true else bif (knowsK l h i).1 then !(knowsK l (h ++ m) i).1 else false) then true else bif (knowsK l m i).1 then !(knowsK l (h ++ m) i).1 else false) then some (.one (.bool false)) else
      bif (allK l h).2 != 0 then some (.one (.bool false)) else
      bif decide ((m.length : Int) = m.length) && (decide ((m.length : Int) ≤ 9223372036854775807) && decide ((allK l h).1.length ≤ 1000000)) then
        bif decide (idxN (fun i => !hasF (kA m i) (allK l h).1 false) m.length 0 < 0) then some (.one (.bool (fin7 (knowsK l h i).1 (knowsK l m i).1 (knowsK l (h ++ m) i).1))) else some (.one (.bool true))
      else none
    else none else none := by kernel_rfl
theorem hasF_eq (k : Int) : ∀ (a : List Int) (h : Bool), hasF k a h = (h || a.any fun v => v == k) := by
  intro a
  induction a with
  | nil => intro h; simp [hasF]
  | cons v a ih => intro h; rw [hasF, ih, List.any_cons]; cases h <;> simp
theorem few_small {l : List Term.D} {xs : List (List Int)} (h : fewK l xs = true) : ∀ x ∈ xs, x.length ≤ 60 ∨ 65536 < x.length := by
  intro x hx
  unfold fewK at h
  cases ha : xs.any (fun x => !fewI x) with
  | true => rw [ha] at h; cases h
  | false =>
    have hf : fewI x = true := by
      have h9 := List.any_eq_false.1 ha x hx
      cases hb : fewI x with
      | true => rfl
      | false => rw [hb] at h9; exact absurd rfl h9
    unfold fewI at hf
    cases h1 : decide ((x.length : Int) ≤ 60) with
    | true => have := of_decide_eq_true h1; omega
    | false =>
      rw [h1] at hf
      cases h2 : decide ((x.length : Int) > 65536) with
      | false => rw [h2] at hf; cases hf
      | true =>
        have := of_decide_eq_true h2
        omega
theorem good7 : ∀ x, Good Try.prog N7 (encA [.v (.sl Term), .v (.sl I), .v (.sl I), .v I] x) (.one (.bool true)) := by
  intro x
  have g : GoodS Try.prog N7 (.fn [.v (.sl Term), .v (.sl I), .v (.sl I), .v I] fun _ => (true, .one (.bool true))) := by
    refine good (.cons g28 (.cons g29 (.cons g30 (.cons g32 (.nil _))))) H7 rfl (by kernel_rfl) Λ7 live7 (twoLoops (p0 := lk7 0) (p1 := lk7 1) (by kernel_rfl) loopO7 loopI7) [.v (.sl Term), .v (.sl I), .v (.sl I), .v I] (by decide) [] _ fun x r hw e => ?_
    obtain ⟨l, h, m, i⟩ := x
    cases e
    refine (r7 l h m i).trans ?_
    cases hf : fewK l [h, m] with
    | false => rfl
    | true =>
      have hl := few_len hf h (by simp)
      have ml := few_len hf m (by simp)
      rw [show nRoom h.length = true from decide_eq_true (by omega), show nRoom (h.length + m.length) = true from decide_eq_true (by omega)]
      simp only [Bool.not_true, cond_false, cond_true]
      cases e1 : (knowsK l h i).2 != 0 with
      | true => rfl
      | false =>
        cases e2 : (knowsK l m i).2 != 0 with
        | true => rfl
        | false =>
          obtain ⟨hh, hg, hi⟩ := knows_err (l := l) (h := h) (i := i) (by simpa using e1)
          obtain ⟨hm, _, _⟩ := knows_err (l := l) (h := m) (i := i) (by simpa using e2)
          have l1 := few_small hf h (by simp)
          have l2 := few_small hf m (by simp)
          have hhm : OkP l (h ++ m) := ⟨by have := hh.1; have := hm.1; rw [List.length_append]; omega, fun x hx => (List.mem_append.1 hx).elim (hh.2 x) (hm.2 x)⟩
          obtain ⟨x1, x2⟩ := knows_of hh hg hi
          obtain ⟨y1, y2⟩ := knows_of hm hg hi
          obtain ⟨z1, z2⟩ := knows_of hhm hg hi
          have xz : (knowsK l h i).1 = true → (knowsK l (h ++ m) i).1 = true := fun e => z2.2 ((x2.1 e).mono fun y hy => List.mem_append_left _ hy)
          have yz : (knowsK l m i).1 = true → (knowsK l (h ++ m) i).1 = true := fun e => z2.2 ((y2.1 e).mono fun y hy => List.mem_append_right _ hy)
          have ea := allK_of hh hg
          have hlen := known_len hh hg
          rw [z1, ea]
          simp only [bne_self_eq_false, cond_false]
          rw [decide_eq_true (show (m.length : Int) ≤ 9223372036854775807 by omega), decide_eq_true (show (knownL l h).length ≤ 1000000 by omega), decide_true]
          have c1 : (bif (bif (knowsK l h i).1 then !(knowsK l (h ++ m) i).1 else false) then true else bif (knowsK l m i).1 then !(knowsK l (h ++ m) i).1 else false) = false := by
            cases hx : (knowsK l h i).1 with
            | true => rw [xz hx]; cases (knowsK l m i).1 <;> rfl
            | false =>
              cases hy : (knowsK l m i).1 with
              | true => rw [yz hy]; rfl
              | false => rfl
          rw [c1]
          simp only [cond_false, Bool.and_self, cond_true]
          rw [anyN_not]
          cases ha : anyN (fun i => !hasF (kA m i) (knownL l h) false) m.length with
          | true => rfl
          | false =>
            have hsub : ∀ x ∈ m, Der l h x := fun x hx => by
              obtain ⟨k, hk, rfl⟩ := List.getElem_of_mem hx
              refine (known_mem hh hg _).1 ?_
              cases hb : hasF (kA m k) (knownL l h) false with
              | false =>
                have : anyN (fun i => !hasF (kA m i) (knownL l h) false) m.length = true := anyN_iff.2 ⟨k, hk, by rw [hb]; rfl⟩
                rw [this] at ha; cases ha
              | true =>
                rw [hasF_eq, Bool.false_or, List.any_eq_true] at hb
                obtain ⟨v, hv, e⟩ := hb
                rw [← kA_get hk, ← eq_of_beq e]; exact hv
            have hzx : ∀ x, Der l (h ++ m) x → Der l h x := Der.least (S := Der l h) (fun x hx => (List.mem_append.1 hx).elim .base (hsub x)) (fun x hx => Der.fol hx)
            have zx : (knowsK l (h ++ m) i).1 = true → (knowsK l h i).1 = true := fun e => x2.2 (hzx i (z2.1 e))
            have hfin : fin7 (knowsK l h i).1 (knowsK l m i).1 (knowsK l (h ++ m) i).1 = true := by
              unfold fin7
              cases hx : (knowsK l h i).1 with
              | true => rw [xz hx]; cases (knowsK l m i).1 <;> rfl
              | false =>
                cases hz : (knowsK l (h ++ m) i).1 with
                | true => rw [zx hz] at hx; cases hx
                | false =>
                  cases hy : (knowsK l m i).1 with
                  | true => rw [yz hy] at hz; cases hz
                  | false => rfl
            rw [hfin]; rfl
  exact g.2.1 _ _ (by kernel_rfl)
end Go.AM.Seat
