/- The seat: contracts: values wrapped. -/
import Derived.Test.YtnkdeglckmogcaaSe3
set_option linter.unusedVariables false
set_option maxRecDepth 100000
namespace Go.AM.Seat
open Go Go.AM Go.Proofs

/-! ### value.is -/
abbrev live44 : List (Nat × Dir) := [(0, .keep), (1, .keep), (2, .keep), (6, .keep), (11, .keep), (12, .keep), (13, .keep)]
def Γ44 : Orc := orc [(N19, s19)]
def vs44 (l : List Term.D) (sh : List Bool) (all al2 : List Value.D) (r n i : Int) : List AV :=
  [.one (.sl false Term none l), .one (.sl false .bool none sh), .one (.sl false Value none all), .one (.int .i64 r), .one (.sl false Value none al2), .one (.int .i64 n), .one (.int .i64 i)]
def ownV (l : List Term.D) (v : Value.D) : Bool := bif v.1 then (tAt l v.2.2.2.2).1 == 5 else v.2.1
def isGo (l : List Term.D) (sh : List Bool) (v0 : Value.D) : List Value.D → Nat → Int
  | [], _ => 0
  | v :: r, i => bif checkV l v != 0 then checkV l v else bif !(ownV l v == sh.getD i false) then 1 else bif !(v.1 == v0.1) then 1 else isGo l sh v0 r (i + 1)
/-- Where that stops. -/
def isAt (l : List Term.D) (sh : List Bool) (v0 : Value.D) : List Value.D → Nat → Nat
  | [], i => i
  | v :: r, i => bif checkV l v != 0 then i else bif !(ownV l v == sh.getD i false) then i else bif !(v.1 == v0.1) then i else isAt l sh v0 r (i + 1)
def vAt (all : List Value.D) (i : Int) : Value.D := all.getD i.toNat zeroV
def Λ44 : Lam AV := fun cur vs K =>
  match cur, vs with
  | 0, [.one (.sl false (.pair (.int .i64) (.pair (.int .i64) (.int .i64))) none l), .one (.sl false .bool none sh), .one (.sl false (.pair .bool (.pair .bool (.pair (.pair (.int .u64) (.int .u64)) (.pair (.pair (.pair (.int .u64) (.int .u64)) (.pair (.int .u64) (.int .u64))) (.int .i64))))) none all),
      .one (.int .i64 0), .one (.sl false (.pair .bool (.pair .bool (.pair (.pair (.int .u64) (.int .u64)) (.pair (.pair (.pair (.int .u64) (.int .u64)) (.pair (.int .u64) (.int .u64))) (.int .i64))))) none al2), .one (.int .i64 n), .one (.int .i64 0)] =>
    bif decide (n = al2.length) && decide (n ≤ 9223372036854775807) && decide (al2.length ≤ sh.length) && decide (al2.length ≤ all.length) then
      bif isGo l sh (vAt all 0) al2 0 == 0 then K (.exit 0) (vs44 l sh all al2 0 n n) else K .ret (vs44 l sh all al2 (isGo l sh (vAt all 0) al2 0) n (isAt l sh (vAt all 0) al2 0))
    else none
  | _, _ => none
theorem step44 (l : List Term.D) (sh : List Bool) (all al2 : List Value.D) (r n i : Int) (K : AE → List AV → Option AV) (fuel : Nat) :
    loopN (aexec tb Γ44 Λ44 ⟨51, 0, [(0, live44)]⟩ (loop1 F44).2 0) 51 0 live44 K (fuel + 1) (vs44 l sh all al2 r n i) =
    bif decide (i < n) then
      bif inB i al2.length then
        bif checkV l (vAt al2 i) != 0 then K .ret (vs44 l sh all al2 (checkV l (vAt al2 i)) n i)
        else bif (vAt al2 i).1 then
          bif inB (vAt al2 i).2.2.2.2 l.length then
            bif inB i sh.length then
              bif !((tAt l (vAt al2 i).2.2.2.2).1 == 5) == sh.getD i.toNat false then K .ret (vs44 l sh all al2 1 n i)
              else bif inB 0 all.length then
                bif !((vAt al2 i).1 == (vAt all 0).1) then K .ret (vs44 l sh all al2 1 n i)
                else loopN (aexec tb Γ44 Λ44 ⟨51, 0, [(0, live44)]⟩ (loop1 F44).2 0) 51 0 live44 K fuel (vs44 l sh all al2 r n (IntKind.i64.wrap (i + 1)))
              else none
            else none
          else none
        else
          bif inB i sh.length then
            bif !(vAt al2 i).2.1 == sh.getD i.toNat false then K .ret (vs44 l sh all al2 1 n i)
            else bif inB 0 all.length then
              bif !((vAt al2 i).1 == (vAt all 0).1) then K .ret (vs44 l sh all al2 1 n i)
              else loopN (aexec tb Γ44 Λ44 ⟨51, 0, [(0, live44)]⟩ (loop1 F44).2 0) 51 0 live44 K fuel (vs44 l sh all al2 r n (IntKind.i64.wrap (i + 1)))
            else none
          else none
      else none
    else K (.exit 0) (vs44 l sh all al2 r n i) := by kernel_rfl
theorem valEq_iff {a b : Value.D} : valEq a b = true ↔ a = b := by
  obtain ⟨a1, a2, ⟨a3, a4⟩, ⟨⟨a5, a6⟩, a7, a8⟩, a9⟩ := a
  obtain ⟨b1, b2, ⟨b3, b4⟩, ⟨⟨b5, b6⟩, b7, b8⟩, b9⟩ := b
  simp [valEq, and_assoc]
theorem checkV_zero {l : List Term.D} {v : Value.D} : checkV l v = 0 ↔ checkL l = 0 ∧ v = plainV l v := by
  unfold checkV
  rcases checkL_cases l with ⟨h, _⟩ | ⟨h, _⟩
  · rw [h]
    cases hq : valEq v (plainV l v) with
    | true => exact ⟨fun _ => ⟨rfl, valEq_iff.1 hq⟩, fun _ => rfl⟩
    | false =>
      have : ¬ v = plainV l v := fun e => by rw [valEq_iff.2 e] at hq; cases hq
      simp [this]
  · rw [h]; simp
theorem checkV_one (l : List Term.D) (v : Value.D) : checkV l v = 0 ∨ checkV l v = 1 := by
  unfold checkV
  rcases checkL_cases l with ⟨h, _⟩ | ⟨h, _⟩
  · rw [h]
    cases hq : valEq v (plainV l v) with
    | true => exact .inl rfl
    | false => exact .inr rfl
  · rw [h]; exact .inr rfl
theorem sym_of {l : List Term.D} {v : Value.D} (h : checkV l v = 0) (hs : v.1 = true) : 0 ≤ v.2.2.2.2 ∧ v.2.2.2.2 < l.length := by
  have h2 := (checkV_zero.1 h).2
  cases hi : isSym l v with
  | true =>
    unfold isSym at hi
    rw [hs] at hi
    simp only [cond_true] at hi
    cases h0 : decide (v.2.2.2.2 ≥ 0) with
    | false => rw [h0] at hi; cases hi
    | true => rw [h0] at hi; simp at h0 hi; exact ⟨h0, hi⟩
  | false =>
    unfold plainV at h2
    rw [hi] at h2
    simp only [cond_false] at h2
    cases hb : v.2.1 with
    | true => rw [hb] at h2; rw [h2] at hs; cases hs
    | false => rw [hb] at h2; rw [h2] at hs; cases hs
theorem vAt_drop {all : List Value.D} {j : Nat} (h : j < all.length) : all.drop j = vAt all j :: all.drop (j + 1) := by
  rw [List.drop_eq_getElem_cons h]
  simp [vAt, h]
theorem loop44 : LoopP tb Γ44 Λ44 ⟨51, 0, [(0, live44)]⟩ (loop1 F44) := by
  intro vs K out h
  have hcur : (loop1 F44).1 = 0 := by kernel_rfl
  rw [hcur] at h ⊢
  unfold Λ44 at h
  split at h
  · rename_i l sh all al2 n _
    cases hc : (decide (n = al2.length) && decide (n ≤ 9223372036854775807) && decide (al2.length ≤ sh.length) && decide (al2.length ≤ all.length)) with
    | false => rw [hc] at h; cases h
    | true =>
      rw [hc] at h
      simp only [cond_true] at h
      simp only [Bool.and_eq_true, decide_eq_true_eq] at hc
      obtain ⟨⟨⟨hn, hmax⟩, hsh⟩, hal⟩ := hc
      subst hn
      have key : ∀ (m j : Nat), j + m = al2.length → (bif isGo l sh (vAt all 0) (al2.drop j) j == 0 then K (.exit 0) (vs44 l sh all al2 0 al2.length al2.length)
            else K .ret (vs44 l sh all al2 (isGo l sh (vAt all 0) (al2.drop j) j) al2.length (isAt l sh (vAt all 0) (al2.drop j) j))) = some out →
          ∃ fuel, loopN (aexec tb Γ44 Λ44 ⟨51, 0, [(0, live44)]⟩ (loop1 F44).2 0) 51 0 live44 K fuel (vs44 l sh all al2 0 al2.length j) = some out := by
        intro m
        induction m with
        | zero =>
          intro j hj h
          refine ⟨1, ?_⟩
          rw [step44]
          have hd : decide ((j : Int) < (al2.length : Int)) = false := by simp; omega
          rw [List.drop_of_length_le (by omega)] at h
          rw [hd, show (j : Int) = al2.length by omega]
          exact h
        | succ m ih =>
          intro j hj h
          have hlt : j < al2.length := by omega
          have hd : decide ((j : Int) < (al2.length : Int)) = true := by simp; omega
          have hb : inB (j : Int) al2.length = true := by simp [inB]; omega
          have hb2 : inB (j : Int) sh.length = true := by simp [inB]; omega
          have hb0 : inB (0 : Int) all.length = true := by simp [inB]; omega
          rw [vAt_drop hlt] at h
          simp only [isGo, isAt] at h
          cases hx : checkV l (vAt al2 j) != 0 with
          | true =>
            refine ⟨1, ?_⟩
            rw [step44, hd, hb]
            simp only [cond_true, hx]
            have hz : (checkV l (vAt al2 j) == 0) = false := by simpa using hx
            simp only [hx, cond_true, hz, cond_false] at h
            exact h
          | false =>
            simp only [hx, cond_false] at h
            have hz : checkV l (vAt al2 j) = 0 := by simpa using hx
            have fin : ∀ own, ownV l (vAt al2 j) = own → ∃ fuel, (bif !own == sh.getD (j : Int).toNat false then K .ret (vs44 l sh all al2 1 al2.length j)
                else bif inB 0 all.length then
                  bif !((vAt al2 j).1 == (vAt all 0).1) then K .ret (vs44 l sh all al2 1 al2.length j)
                  else loopN (aexec tb Γ44 Λ44 ⟨51, 0, [(0, live44)]⟩ (loop1 F44).2 0) 51 0 live44 K fuel (vs44 l sh all al2 0 al2.length (IntKind.i64.wrap (j + 1)))
                else none) = some out := by
              intro own ho
              rw [ho] at h
              simp only [Int.toNat_natCast, hb0, cond_true]
              cases h1 : !own == sh.getD j false with
              | true =>
                refine ⟨0, ?_⟩
                simp only [h1, cond_true] at h ⊢
                exact h
              | false =>
                simp only [h1, cond_false] at h ⊢
                cases h2 : !((vAt al2 j).1 == (vAt all 0).1) with
                | true =>
                  refine ⟨0, ?_⟩
                  simp only [h2, cond_true] at h ⊢
                  exact h
                | false =>
                  simp only [h2, cond_false] at h ⊢
                  obtain ⟨fuel, hf⟩ := ih (j + 1) (by omega) h
                  refine ⟨fuel, ?_⟩
                  rw [wrap64 (by omega) (by omega)]
                  exact hf
            cases hv : (vAt al2 j).1 with
            | true =>
              obtain ⟨fuel, hf⟩ := fin _ (by unfold ownV; rw [hv])
              refine ⟨fuel + 1, ?_⟩
              obtain ⟨s1, s2⟩ := sym_of hz hv
              have hbt : inB (vAt al2 j).2.2.2.2 l.length = true := by simp only [inB, Bool.and_eq_true, decide_eq_true_eq]; exact ⟨s1, s2⟩
              rw [step44, hd, hb]
              simp only [cond_true, hx, cond_false, hv, hbt, hb2] at hf ⊢
              exact hf
            | false =>
              obtain ⟨fuel, hf⟩ := fin _ (by unfold ownV; rw [hv])
              refine ⟨fuel + 1, ?_⟩
              rw [step44, hd, hb]
              simp only [cond_true, hx, cond_false, hv, hb2] at hf ⊢
              exact hf
      exact key al2.length 0 (by omega) h
  · cases h
def isV (l : List Term.D) (sh : List Bool) (all : List Value.D) : Int := isGo l sh (vAt all 0) all 0
theorem r44 (l : List Term.D) (sh : List Bool) (all : List Value.D) : run Γ44 Λ44 [(0, live44)] F44 (encA [.v (.sl Term), .v (.sl .bool), .v (.sl Value)] (l, sh, all)) [] =
    bif decide ((all.length : Int) = all.length) && decide ((all.length : Int) ≤ 9223372036854775807) && decide (all.length ≤ sh.length) && decide (all.length ≤ all.length) then
      bif isV l sh all == 0 then some (.one (.int .i64 0)) else some (.one (.int .i64 (isV l sh all)))
    else none := by kernel_rfl
def s44 : Sp := .fn [.v (.sl Term), .v (.sl .bool), .v (.sl Value)] fun x => (decide (x.2.2.length ≤ x.2.1.length), .one (.int .i64 (isV x.1 x.2.1 x.2.2)))
theorem g44 : GoodS Try.prog N44 s44 := by
  refine good (.cons g19 (.nil _)) H44 rfl (by kernel_rfl) Λ44 [(0, live44)] (oneLoop (p0 := loop1 F44) (by kernel_rfl) loop44) [.v (.sl Term), .v (.sl .bool), .v (.sl Value)] (by decide) [] _ fun x r hw h => ?_
  obtain ⟨l, sh, all⟩ := x
  simp only [Prod.mk.injEq] at h
  obtain ⟨h1, rfl⟩ := h
  refine (r44 l sh all).trans ?_
  have hmax : (all.length : Int) ≤ 9223372036854775807 := by have : all.length ≤ 9223372036854775807 := hw.2.2.1; omega
  simp only [decide_eq_true hmax, decide_true, Bool.and_self, cond_true, h1, Nat.le_refl]
  cases hq : isV l sh all == 0 with
  | true => rw [eq_of_beq hq]; rfl
  | false => rfl
theorem checkL_small {l : List Term.D} (h : checkL l = 0) : l.length ≤ 65536 := by
  rcases checkL_cases l with ⟨_, h1⟩ | ⟨h1, _⟩
  · exact ixL_len h1
  · rw [h1] at h; cases h

/-! ### value.Part -/
def Γ22 : Orc := orc [(N44, s44), (N45, s45), (N47, s47), (N53, s53)]
@[reducible] def P3 : List AK := [.v (.sl Term), .v Value, .v I]
def partBad (l : List Term.D) (v : Value.D) (i : Int) : Bool := bif bif isV l [false] [v] != 0 then true else decide (i < 0) then true else decide (i > 2)
def partV (l : List Term.D) (v : Value.D) (i : Int) : Value.D × List Term.D × Int :=
  bif partBad l v i then (zeroV, [], 1) else bif v.1 then madeV l (IntKind.i64.wrap (2 + i), v.2.2.2.2, 0) else (octV (partR v.2.2.1 i).1, l, (partR v.2.2.1 i).2)
theorem r22 (l : List Term.D) (v : Value.D) (i : Int) : run Γ22 noL [] F22 (encA P3 (l, v, i)) wVle =
    bif partBad l v i then some (vle (zeroV, [], 1)) else
    bif v.1 then some (vle (madeV l (IntKind.i64.wrap (2 + i), v.2.2.2.2, 0))) else bif small24 l.length then some (vle (octV (partR v.2.2.1 i).1, l, (partR v.2.2.1 i).2)) else none := by kernel_rfl
theorem isV_one {l : List Term.D} {a : Bool} {v : Value.D} : isV l [a] [v] = 0 ↔ checkV l v = 0 ∧ ownV l v = a := by
  unfold isV
  have e : isGo l [a] (vAt [v] 0) [v] 0 = bif checkV l v != 0 then checkV l v else bif !(ownV l v == a) then 1 else 0 := by
    show isGo l [a] v [v] 0 = _
    simp only [isGo, List.getD_cons_zero, beq_self_eq_true, Bool.not_true, cond_false]
  rw [e]
  rcases checkV_one l v with h1 | h1 <;> rw [h1]
  all_goals
    cases h3 : !(ownV l v == a) <;> simp at h3 <;> simp [h3]
def s22 : Sp := .fn P3 fun x => (true, vle (partV x.1 x.2.1 x.2.2))
theorem g22 : GoodS Try.prog N22 s22 := by
  refine good (.cons g44 (.cons g45 (.cons g47 (.cons g53 (.nil _))))) H22 rfl (by kernel_rfl) noL [] (noLoops (by kernel_rfl)) P3 (by decide) wVle _ fun x r hw h => ?_
  obtain ⟨l, v, i⟩ := x
  cases h
  refine (r22 l v i).trans ?_
  simp only [partV]
  cases h0 : partBad l v i with
  | true => rfl
  | false =>
    cases v.1 with
    | true => rfl
    | false =>
      unfold partBad at h0
      cases h1 : isV l [false] [v] != 0 with
      | true => rw [h1] at h0; cases h0
      | false =>
        have hz : isV l [false] [v] = 0 := by simpa using h1
        rw [small_of (checkL_small (checkV_zero.1 (isV_one.1 hz).1).1)]; rfl
end Go.AM.Seat
