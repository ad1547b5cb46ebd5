/- the laws of know: KnowMore. -/
import Derived.Test.YtnkdeglckmogcaaSeKZ
set_option linter.unusedVariables false
set_option linter.unusedSimpArgs false
set_option maxRecDepth 100000
namespace Go.AM.Seat
open Go Go.AM Go.Proofs
noncomputable def Γ6 : Orc := orc [(N28, s28), (N29, s29), (N30, s30), (N31, s31k)]
abbrev live6 : List (Nat × List (Nat × Dir)) := [(0, [(6, .keep), (7, .keep), (12, .keep), (16, .keep), (80, .keep), (81, .keep), (82, .keep)]), (2, [(6, .keep), (7, .keep), (12, .keep), (16, .keep), (18, .keep), (80, .keep), (81, .keep), (82, .keep)])]
def vo6 (a b : List Int) (r up : Bool) (k n i : Int) : List AV := [.one (.bool r), .one (.bool up), .one (.sl true I none b), .one (.int .i64 k), .one (.sl true I none a), .one (.int .i64 n), .one (.int .i64 i)]
def vi6 (a b : List Int) (r up : Bool) (k x n i : Int) : List AV := [.one (.bool r), .one (.bool up), .one (.sl true I none b), .one (.int .i64 k), .one (.int .i64 x), .one (.sl true I none a), .one (.int .i64 n), .one (.int .i64 i)]
noncomputable def lk6 (k : Nat) : Nat × Code := (loopsOf 0 (body F6)).getD k (0, .skip)
noncomputable abbrev lo6 (k c : Nat) (Λ : Lam AV) (K : AE → List AV → Option AV) (fuel : Nat) (vs : List AV) : Option AV := loopN (aexec tb Γ6 Λ ⟨114, 0, live6⟩ (lk6 k).2 c) 114 0 (Lay.get ⟨114, 0, live6⟩ c) K fuel vs
def adv6 (b : List Int) (x : Int) : Nat → Nat → Nat
  | 0, k => k
  | f + 1, k => bif (bif decide (k < b.length) then decide (kA b k < x) else false) then adv6 b x f (k + 1) else k
/-- Each is found, one behind the other. -/
def subR (b : List Int) : List Int → Nat → Option Nat
  | [], k => some k
  | x :: r, k => bif decide (k ≤ b.length) && (decide (adv6 b x b.length k < b.length) && kA b (adv6 b x b.length k) == x) then subR b r (adv6 b x b.length k) else none
def Λ6 : Lam AV := fun cur vs K =>
  match cur, vs with
  | 0, [.one (.bool r), .one (.bool up), .one (.sl true (.int .i64) none b), .one (.int .i64 0), .one (.sl true (.int .i64) none a), .one (.int .i64 n), .one (.int .i64 0)] =>
    bif decide (n = a.length) && (decide (a.length ≤ 1000000) && decide (b.length ≤ 1000000)) then
      (match subR b a 0 with
      | some k => K (.exit 0) (vo6 a b r up k n n)
      | none => none) else none
  | 2, [.one (.bool r), .one (.bool up), .one (.sl true (.int .i64) none b), .one (.int .i64 k), .one (.int .i64 x), .one (.sl true (.int .i64) none a), .one (.int .i64 n), .one (.int .i64 i)] =>
    bif inB k (b.length + 1) && decide (b.length ≤ 1000000) then K (.exit 2) (vi6 a b r up (adv6 b x b.length k.toNat) x n i) else none
  | _, _ => none
theorem stepI6 (a b : List Int) (r up : Bool) (k x n i : Int) (Λ : Lam AV) (K : AE → List AV → Option AV) (fuel : Nat) : lo6 1 2 Λ K (fuel + 1) (vi6 a b r up k x n i) =
    bif inB k b.length || !boolBeq (decide (k < (b.length : Int))) true then
      bif (bif decide (k < (b.length : Int)) then decide (kA b k < x) else false) then lo6 1 2 Λ K fuel (vi6 a b r up (IntKind.i64.wrap (k + 1)) x n i) else K (.exit 2) (vi6 a b r up k x n i)
    else none := by kernel_rfl
theorem stepO6 (a b : List Int) (r up : Bool) (k n i : Int) (K : AE → List AV → Option AV) (fuel : Nat) : lo6 0 0 Λ6 K (fuel + 1) (vo6 a b r up k n i) =
    bif decide (i < n) then bif inB i a.length then bif inB k (b.length + 1) && decide (b.length ≤ 1000000) then
      bif inB (adv6 b (kA a i) b.length k.toNat) b.length || !boolBeq ((adv6 b (kA a i) b.length k.toNat : Int) == b.length) false then
        bif (bif (adv6 b (kA a i) b.length k.toNat : Int) == b.length then true else kA b (adv6 b (kA a i) b.length k.toNat) != kA a i) then K .ret (vo6 a b false up (adv6 b (kA a i) b.length k.toNat) n i)
        else lo6 0 0 Λ6 K fuel (vo6 a b r up (adv6 b (kA a i) b.length k.toNat) n (IntKind.i64.wrap (i + 1)))
      else none else none else none else K (.exit 0) (vo6 a b r up k n i) := by kernel_rfl
theorem loopI6 : LoopP tb Γ6 Λ6 ⟨114, 0, live6⟩ (lk6 1) := by
  intro vs K out h
  have hcur : (lk6 1).1 = 2 := by kernel_rfl
  rw [hcur] at h ⊢
  unfold Λ6 at h
  split at h
  · exact absurd (show (2 : Nat) = 0 by assumption) (by decide)
  · rename_i r up b k x a n i _
    cases hc : (inB k (b.length + 1) && decide (b.length ≤ 1000000)) with
    | false => rw [hc] at h; cases h
    | true =>
      rw [hc] at h
      simp only [cond_true] at h
      rw [Bool.and_eq_true] at hc
      obtain ⟨hk, hl⟩ := hc
      have hl := of_decide_eq_true hl
      obtain ⟨k0, k1⟩ := inB_iff.1 hk
      obtain ⟨j, rfl⟩ := Int.eq_ofNat_of_zero_le k0
      have key : ∀ (f j : Nat), j ≤ b.length → b.length ≤ f + j → K (.exit 2) (vi6 a b r up (adv6 b x f j) x n i) = some out → ∃ fuel, lo6 1 2 Λ6 K fuel (vi6 a b r up j x n i) = some out := by
        intro f
        induction f with
        | zero =>
          intro j hj hf h
          obtain rfl : j = b.length := by omega
          refine ⟨1, ?_⟩
          rw [stepI6, nlt_dec, show (inB (b.length : Int) b.length || !boolBeq false true) = true by simp [boolBeq]]
          exact h
        | succ f ih =>
          intro j hj hf h
          rw [adv6] at h
          rcases Nat.lt_or_ge j b.length with hlt | hge
          · rw [decide_eq_true hlt] at h
            cases hx : decide (kA b j < x) with
            | true =>
              rw [hx] at h
              obtain ⟨fuel, hf⟩ := ih (j + 1) (by omega) (by omega) h
              exact ⟨fuel + 1, by rw [stepI6, inB_lt hlt, lt_dec hlt, hx, wrap64 (n := (j : Int) + 1) (by omega) (by omega)]; exact hf⟩
            | false =>
              rw [hx] at h
              exact ⟨1, by rw [stepI6, inB_lt hlt, lt_dec hlt, hx]; exact h⟩
          · obtain rfl : j = b.length := by omega
            rw [decide_eq_false (Nat.lt_irrefl _)] at h
            refine ⟨1, ?_⟩
            rw [stepI6, nlt_dec, show (inB (b.length : Int) b.length || !boolBeq false true) = true by simp [boolBeq]]
            exact h
      exact key b.length j (by omega) (by omega) (by simpa using h)
  · cases h
theorem loopO6 : LoopP tb Γ6 Λ6 ⟨114, 0, live6⟩ (lk6 0) := by
  intro vs K out h
  have hcur : (lk6 0).1 = 0 := by kernel_rfl
  rw [hcur] at h ⊢
  unfold Λ6 at h
  split at h
  · rename_i r up b a n _
    cases hc : (decide (n = a.length) && (decide (a.length ≤ 1000000) && decide (b.length ≤ 1000000))) with
    | false => rw [hc] at h; cases h
    | true =>
      rw [hc] at h
      simp only [cond_true] at h
      simp only [Bool.and_eq_true, decide_eq_true_eq] at hc
      obtain ⟨rfl, ha, hb⟩ := hc
      have key : ∀ (m j k : Nat), j + m = a.length → (match subR b (a.drop j) k with
          | some k => K (.exit 0) (vo6 a b r up k a.length a.length)
          | none => none) = some out → ∃ fuel, lo6 0 0 Λ6 K fuel (vo6 a b r up k a.length j) = some out := by
        intro m
        induction m with
        | zero =>
          intro j k hj h
          obtain rfl : j = a.length := by omega
          rw [List.drop_length] at h
          exact ⟨1, by rw [stepO6, nlt_dec]; exact h⟩
        | succ m ih =>
          intro j k hj h
          have hlt : j < a.length := by omega
          rw [kA_drop hlt, subR] at h
          cases hq : (decide (k ≤ b.length) && (decide (adv6 b (kA a j) b.length k < b.length) && kA b (adv6 b (kA a j) b.length k) == kA a j)) with
          | false => rw [hq] at h; cases h
          | true =>
            rw [hq] at h
            simp only [cond_true] at h
            simp only [Bool.and_eq_true, decide_eq_true_eq] at hq
            obtain ⟨q1, q2, q3⟩ := hq
            obtain ⟨fuel, hf⟩ := ih (j + 1) _ (by omega) h
            refine ⟨fuel + 1, ?_⟩
            have e1 : ((adv6 b (kA a j) b.length k : Int) == (b.length : Int)) = false := by simp; omega
            have e2 : (kA b (adv6 b (kA a j) b.length k) != kA a j) = false := by rw [bne, q3]; rfl
            rw [stepO6, lt_dec hlt, inB_lt hlt, inB_lt (show k < b.length + 1 by omega), decide_eq_true hb, Int.toNat_natCast, inB_lt q2, e1, e2, wrap64 (n := (j : Int) + 1) (by omega) (by omega)]
            exact hf
      exact key a.length 0 0 (by omega) h
  · exact absurd (show (0 : Nat) = 2 by assumption) (by decide)
  · cases h
theorem r6 (l : List Term.D) (h m : List Int) : run Γ6 Λ6 live6 F6 [.one (.sl false Term none l), .one (.sl false I none h), .one (.sl false I none m)] [] =
    bif !fewK l [h, m] then some (.one (.bool true)) else bif nRoom m.length then bif nRoom (m.length + h.length) then
      bif (bif (allK l h).2 != 0 then true else (allK l (m ++ h)).2 != 0) then some (.one (.bool true)) else
      bif nRoom h.length then bif nRoom (h.length + m.length) then
        bif (bif (bif (bif (allK l []).2 != 0 then true else (allK l (h ++ m)).2 != 0) then true else ((allK l []).1.length : Int) != 0) then true else !(@decide ((allK l (m ++ h)).1 = (allK l (h ++ m)).1) (Classical.propDecidable _))) then some (.one (.bool false))
        else bif decide (((allK l h).1.length : Int) = (allK l h).1.length) && (decide ((allK l h).1.length ≤ 1000000) && decide ((allK l (m ++ h)).1.length ≤ 1000000)) then
          (match subR (allK l (m ++ h)).1 (allK l h).1 0 with
          | some k => some (.one (.bool true))
          | none => none) else none
      else none else none
    else none else none := by kernel_rfl
theorem adv_spec {b : List Int} {x : Int} : ∀ (f k : Nat), b.length ≤ f + k → k ≤ adv6 b x f k ∧ (∀ j, k ≤ j → j < adv6 b x f k → kA b j < x) ∧ (adv6 b x f k < b.length → ¬ kA b (adv6 b x f k) < x) := by
  intro f
  induction f with
  | zero => intro k hk; exact ⟨Nat.le_refl _, fun j h1 h2 => (by have : adv6 b x 0 k = k := rfl; omega), fun h => (by have : adv6 b x 0 k = k := rfl; omega)⟩
  | succ f ih =>
    intro k hk
    rw [adv6]
    rcases Nat.lt_or_ge k b.length with hlt | hge
    · rw [decide_eq_true hlt]
      cases hx : decide (kA b k < x) with
      | true =>
        obtain ⟨a1, a2, a3⟩ := ih (k + 1) (by omega)
        simp only [cond_true]
        refine ⟨by omega, fun j h1 h2 => ?_, a3⟩
        rcases Nat.eq_or_lt_of_le h1 with rfl | h1
        · exact of_decide_eq_true hx
        · exact a2 j h1 h2
      | false => exact ⟨Nat.le_refl _, fun j h1 h2 => absurd h2 (Nat.not_lt.2 h1), fun _ => of_decide_eq_false hx⟩
    · rw [decide_eq_false (by omega)]
      exact ⟨Nat.le_refl _, fun j h1 h2 => absurd h2 (Nat.not_lt.2 h1), fun h => absurd h (Nat.not_lt.2 hge)⟩
theorem kA_get {b : List Int} {k : Nat} (h : k < b.length) : kA b k = b[k] := by unfold kA; simp [h]
theorem sub_some {b : List Int} (hb : b.Pairwise (· < ·)) : ∀ (a : List Int) (k : Nat), a.Pairwise (· < ·) → k ≤ b.length → (∀ x ∈ a, ∃ j, k ≤ j ∧ ∃ hj : j < b.length, b[j] = x) → (subR b a k).isSome = true := by
  have hmono : ∀ p q (hp : p < b.length) (hq : q < b.length), p < q → b[p] < b[q] := fun p q hp hq h => List.pairwise_iff_getElem.1 hb p q hp hq h
  intro a
  induction a with
  | nil => intro k _ _ _; rfl
  | cons x a ih =>
    intro k ha hk hm
    obtain ⟨j, hkj, hj, e⟩ := hm x (by simp)
    obtain ⟨s1, s2, s3⟩ := adv_spec (b := b) (x := x) b.length k (by omega)
    have hle : adv6 b x b.length k ≤ j := by
      rcases Nat.lt_or_ge j (adv6 b x b.length k) with h9 | h9
      · have := s2 j hkj h9
        rw [kA_get hj, e] at this; exact absurd this (Int.lt_irrefl _)
      · exact h9
    have hlt : adv6 b x b.length k < b.length := by omega
    have he : adv6 b x b.length k = j := by
      rcases Nat.eq_or_lt_of_le hle with h9 | h9
      · exact h9
      · have h8 := hmono _ _ hlt hj h9
        have := s3 hlt
        rw [kA_get hlt] at this
        rw [e] at h8; exact absurd h8 this
    rw [subR, decide_eq_true hk, decide_eq_true hlt, he, kA_get hj, e]
    simp only [beq_self_eq_true, Bool.and_self, cond_true]
    rw [List.pairwise_cons] at ha
    refine ih j ha.2 (by omega) fun y hy => ?_
    obtain ⟨j', h1, hj', e'⟩ := hm y (by simp [hy])
    have hxy := ha.1 y hy
    refine ⟨j', ?_, hj', e'⟩
    rcases Nat.lt_or_ge j' j with h9 | h9
    · have := hmono _ _ hj' hj h9
      rw [e, e'] at this
      omega
    · exact h9
theorem Der.mono {l : List Term.D} {h h' : List Int} (hs : ∀ x ∈ h, x ∈ h') {x : Int} (H : Der l h x) : Der l h' x :=
  Der.least (S := Der l h') (fun y hy => .base (hs y hy)) (fun y hy => Der.fol hy) x H
theorem allK_ok {l : List Term.D} {h : List Int} (he : (allK l h).2 = 0) : OkP l h ∧ GoodL l := by
  refine checkK_one.1 ?_
  unfold allK at he
  rcases checkK_cases l [h] with e | e
  · exact e
  · rw [e] at he; cases he
theorem allK_of {l : List Term.D} {h : List Int} (hh : OkP l h) (hg : GoodL l) : allK l h = (knownL l h, 0) := by
  unfold allK; rw [checkK_one.2 ⟨hh, hg⟩]; rfl
theorem good6 : ∀ x, Good Try.prog N6 (encA [.v (.sl Term), .v (.sl I), .v (.sl I)] x) (.one (.bool true)) := by
  intro x
  have g : GoodS Try.prog N6 (.fn [.v (.sl Term), .v (.sl I), .v (.sl I)] fun _ => (true, .one (.bool true))) := by
    refine good (.cons g28 (.cons g29 (.cons g30 (.cons g31k (.nil _))))) H6 rfl (by kernel_rfl) Λ6 live6 (twoLoops (p0 := lk6 0) (p1 := lk6 1) (by kernel_rfl) loopO6 loopI6) [.v (.sl Term), .v (.sl I), .v (.sl I)] (by decide) [] _ fun x r hw e => ?_
    obtain ⟨l, h, m⟩ := x
    cases e
    refine (r6 l h m).trans ?_
    cases hf : fewK l [h, m] with
    | false => rfl
    | true =>
      have hl := few_len hf h (by simp)
      have ml := few_len hf m (by simp)
      have a1 := allK_len l h
      have a2 := allK_len l (m ++ h)
      rw [show nRoom h.length = true from decide_eq_true (by omega), show nRoom m.length = true from decide_eq_true (by omega), show nRoom (m.length + h.length) = true from decide_eq_true (by omega), show nRoom (h.length + m.length) = true from decide_eq_true (by omega)]
      simp only [Bool.not_true, cond_false, cond_true]
      cases e1 : (allK l h).2 != 0 with
      | true => rfl
      | false =>
        cases e2 : (allK l (m ++ h)).2 != 0 with
        | true => rfl
        | false =>
          obtain ⟨hh, hg⟩ := allK_ok (l := l) (h := h) (by simpa using e1)
          obtain ⟨hmh, _⟩ := allK_ok (l := l) (h := m ++ h) (by simpa using e2)
          have hmem : ∀ x, x ∈ h ++ m ↔ x ∈ m ++ h := fun x => by simp [or_comm]
          have hhm : OkP l (h ++ m) := ⟨by have := hmh.1; simp at this ⊢; omega, fun x hx => hmh.2 x ((hmem x).1 hx)⟩
          have h0 : OkP l [] := ⟨by simp, fun x hx => by cases hx⟩
          have k0 : knownL l [] = [] := by
            cases hk : knownL l [] with
            | nil => rfl
            | cons x r =>
              have : Der l [] x := (known_mem h0 hg x).1 (by rw [hk]; simp)
              exact absurd (Der.least (S := fun _ => False) (fun x hx => by cases hx) (fun x hx => by rcases hx with ⟨_, _, h3, _⟩ | ⟨_, _, _, h3, _⟩ <;> exact h3) x this) id
          have hbc : knownL l (m ++ h) = knownL l (h ++ m) := asc_ext (known_asc hmh hg) (known_asc hhm hg) fun x => by
            rw [known_mem hmh hg, known_mem hhm hg]
            exact ⟨Der.mono fun y hy => (hmem y).2 hy, Der.mono fun y hy => (hmem y).1 hy⟩
          have hlen1 := known_len hh hg
          have hlen2 := known_len hmh hg
          rw [allK_of hh hg, allK_of hmh hg, allK_of h0 hg, allK_of hhm hg, k0, hbc, @decide_eq_true (knownL l (h ++ m) = knownL l (h ++ m)) (Classical.propDecidable _) rfl]
          simp only [bne_self_eq_false, cond_false, List.length_nil, Int.natCast_zero, Bool.not_true]
          rw [decide_eq_true (show (knownL l h).length ≤ 1000000 by omega), decide_eq_true (show (knownL l (h ++ m)).length ≤ 1000000 by rw [← hbc]; omega)]
          simp only [decide_true, Bool.and_self, cond_true]
          have hs := sub_some (known_asc hhm hg) (knownL l h) 0 (known_asc hh hg) (Nat.zero_le _) fun x hx => by
            have : x ∈ knownL l (h ++ m) := (known_mem hhm hg x).2 (((known_mem hh hg x).1 hx).mono fun y hy => List.mem_append_left _ hy)
            obtain ⟨j, hj, e⟩ := List.getElem_of_mem this
            exact ⟨j, Nat.zero_le _, hj, e⟩
          cases hsr : subR (knownL l (h ++ m)) (knownL l h) 0 with
          | none => rw [hsr] at hs; cases hs
          | some k => rfl
  exact g.2.1 _ _ (by kernel_rfl)
end Go.AM.Seat
