/- The seat: contracts: values wrapped. -/
import Derived.Test.YtnkdeglckmogcaaSe5
set_option linter.unusedVariables false
set_option maxRecDepth 100000
namespace Go.AM.Seat
open Go Go.AM Go.Proofs

/-! ### value.is -/
abbrev live44 : List (Nat × Dir) := [(0, .keep), (1, .keep), (2, .keep), (6, .keep), (11, .keep), (12, .keep), (13, .keep)]
def Γ44 : Orc := orc [(N19, s19)]
def vs44 (l : List Term.D) (sh : List Bool) (all al2 : List Value.D) (r n i : Int) : List AV :=
  [.one (.sl false Term none l), .one (.sl false .bool none sh), .one (.sl false Value none all), .one (.int .i64 r), .one (.sl false Value none al2), .one (.int .i64 n), .one (.int .i64 i)]
def ownV (l : List Term.D) (v : Value.D) : Bool := bif v.1 then (tAt l v.2.2.2.2).1 == 5 else v.2.1
def isGo (l : List Term.D) (sh : List Bool) (v0 : Value.D) : List Value.D → Nat → Int
  | [], _ => 0
  | v :: r, i => bif checkV l v != 0 then checkV l v else bif !(ownV l v == sh.getD i false) then 1 else bif !(v.1 == v0.1) then 1 else isGo l sh v0 r (i + 1)
/-- Where that stops. -/
def isAt (l : List Term.D) (sh : List Bool) (v0 : Value.D) : List Value.D → Nat → Nat
  | [], i => i
  | v :: r, i => bif checkV l v != 0 then i else bif !(ownV l v == sh.getD i false) then i else bif !(v.1 == v0.1) then i else isAt l sh v0 r (i + 1)
def vAt (all : List Value.D) (i : Int) : Value.D := all.getD i.toNat zeroV
def Λ44 : Lam AV := fun cur vs K =>
  match cur, vs with
  | 0, [.one (.sl false (.pair (.int .i64) (.pair (.int .i64) (.int .i64))) none l), .one (.sl false .bool none sh), .one (.sl false (.pair .bool (.pair .bool (.pair (.pair (.int .u64) (.int .u64)) (.pair (.pair (.pair (.int .u64) (.int .u64)) (.pair (.int .u64) (.int .u64))) (.int .i64))))) none all),
      .one (.int .i64 0), .one (.sl false (.pair .bool (.pair .bool (.pair (.pair (.int .u64) (.int .u64)) (.pair (.pair (.pair (.int .u64) (.int .u64)) (.pair (.int .u64) (.int .u64))) (.int .i64))))) none al2), .one (.int .i64 n), .one (.int .i64 0)] =>
    bif decide (n = al2.length) && decide (n ≤ 9223372036854775807) && decide (al2.length ≤ sh.length) && decide (al2.length ≤ all.length) then
      bif isGo l sh (vAt all 0) al2 0 == 0 then K (.exit 0) (vs44 l sh all al2 0 n n) else K .ret (vs44 l sh all al2 (isGo l sh (vAt all 0) al2 0) n (isAt l sh (vAt all 0) al2 0))
    else none
  | _, _ => none
theorem step44 (l : List Term.D) (sh : List Bool) (all al2 : List Value.D) (r n i : Int) (K : AE → List AV → Option AV) (fuel : Nat) :
    loopN (aexec tb Γ44 Λ44 ⟨51, 0, [(0, live44)]⟩ (loop1 F44).2 0) 51 0 live44 K (fuel + 1) (vs44 l sh all al2 r n i) =
    bif decide (i < n) then
      bif inB i al2.length then
        bif checkV l (vAt al2 i) != 0 then K .ret (vs44 l sh all al2 (checkV l (vAt al2 i)) n i)
        else bif (vAt al2 i).1 then
          bif inB (vAt al2 i).2.2.2.2 l.length then
            bif inB i sh.length then
              bif !((tAt l (vAt al2 i).2.2.2.2).1 == 5) == sh.getD i.toNat false then K .ret (vs44 l sh all al2 1 n i)
              else bif inB 0 all.length then
                bif !((vAt al2 i).1 == (vAt all 0).1) then K .ret (vs44 l sh all al2 1 n i)
                else loopN (aexec tb Γ44 Λ44 ⟨51, 0, [(0, live44)]⟩ (loop1 F44).2 0) 51 0 live44 K fuel (vs44 l sh all al2 r n (IntKind.i64.wrap (i + 1)))
              else none
            else none
          else none
        else
          bif inB i sh.length then
            bif !(vAt al2 i).2.1 == sh.getD i.toNat false then K .ret (vs44 l sh all al2 1 n i)
            else bif inB 0 all.length then
              bif !((vAt al2 i).1 == (vAt all 0).1) then K .ret (vs44 l sh all al2 1 n i)
              else loopN (aexec tb Γ44 Λ44 ⟨51, 0, [(0, live44)]⟩ (loop1 F44).2 0) 51 0 live44 K fuel (vs44 l sh all al2 r n (IntKind.i64.wrap (i + 1)))
            else none
          else none
      else none
    else K (.exit 0) (vs44 l sh all al2 r n i) := by kernel_rfl
theorem valEq_iff {a b : Value.D} : valEq a b = true ↔ a = b := by
  obtain ⟨a1, a2, ⟨a3, a4⟩, ⟨⟨a5, a6⟩, a7, a8⟩, a9⟩ := a
  obtain ⟨b1, b2, ⟨b3, b4⟩, ⟨⟨b5, b6⟩, b7, b8⟩, b9⟩ := b
  simp [valEq, and_assoc]
theorem checkL_cases (l : List Term.D) : (checkL l = 0 ∧ (ixL l).1 = true) ∨ (checkL l = 1 ∧ (ixL l).1 = false) := by
  unfold checkL
  cases (ixL l).1
  · exact .inr ⟨rfl, rfl⟩
  · exact .inl ⟨rfl, rfl⟩
theorem checkV_zero {l : List Term.D} {v : Value.D} : checkV l v = 0 ↔ checkL l = 0 ∧ v = plainV l v := by
  unfold checkV
  rcases checkL_cases l with ⟨h, _⟩ | ⟨h, _⟩
  · rw [h]
    cases hq : valEq v (plainV l v) with
    | true => exact ⟨fun _ => ⟨rfl, valEq_iff.1 hq⟩, fun _ => rfl⟩
    | false =>
      have : ¬ v = plainV l v := fun e => by rw [valEq_iff.2 e] at hq; cases hq
      simp [this]
  · rw [h]; simp
theorem checkV_one (l : List Term.D) (v : Value.D) : checkV l v = 0 ∨ checkV l v = 1 := by
  unfold checkV
  rcases checkL_cases l with ⟨h, _⟩ | ⟨h, _⟩
  · rw [h]
    cases hq : valEq v (plainV l v) with
    | true => exact .inl rfl
    | false => exact .inr rfl
  · rw [h]; exact .inr rfl
theorem sym_of {l : List Term.D} {v : Value.D} (h : checkV l v = 0) (hs : v.1 = true) : 0 ≤ v.2.2.2.2 ∧ v.2.2.2.2 < l.length := by
  have h2 := (checkV_zero.1 h).2
  cases hi : isSym l v with
  | true =>
    unfold isSym at hi
    rw [hs] at hi
    simp only [cond_true] at hi
    cases h0 : decide (v.2.2.2.2 ≥ 0) with
    | false => rw [h0] at hi; cases hi
    | true => rw [h0] at hi; simp at h0 hi; exact ⟨h0, hi⟩
  | false =>
    unfold plainV at h2
    rw [hi] at h2
    simp only [cond_false] at h2
    cases hb : v.2.1 with
    | true => rw [hb] at h2; rw [h2] at hs; cases hs
    | false => rw [hb] at h2; rw [h2] at hs; cases hs
theorem vAt_drop {all : List Value.D} {j : Nat} (h : j < all.length) : all.drop j = vAt all j :: all.drop (j + 1) := by
  rw [List.drop_eq_getElem_cons h]
  simp [vAt, h]
theorem loop44 : LoopP tb Γ44 Λ44 ⟨51, 0, [(0, live44)]⟩ (loop1 F44) := by
  intro vs K out h
  have hcur : (loop1 F44).1 = 0 := by kernel_rfl
  rw [hcur] at h ⊢
  unfold Λ44 at h
  split at h
  · rename_i l sh all al2 n _
    cases hc : (decide (n = al2.length) && decide (n ≤ 9223372036854775807) && decide (al2.length ≤ sh.length) && decide (al2.length ≤ all.length)) with
    | false => rw [hc] at h; cases h
    | true =>
      rw [hc] at h
      simp only [cond_true] at h
      simp only [Bool.and_eq_true, decide_eq_true_eq] at hc
      obtain ⟨⟨⟨hn, hmax⟩, hsh⟩, hal⟩ := hc
      subst hn
      have key : ∀ (m j : Nat), j + m = al2.length → (bif isGo l sh (vAt all 0) (al2.drop j) j == 0 then K (.exit 0) (vs44 l sh all al2 0 al2.length al2.length)
            else K .ret (vs44 l sh all al2 (isGo l sh (vAt all 0) (al2.drop j) j) al2.length (isAt l sh (vAt all 0) (al2.drop j) j))) = some out →
          ∃ fuel, loopN (aexec tb Γ44 Λ44 ⟨51, 0, [(0, live44)]⟩ (loop1 F44).2 0) 51 0 live44 K fuel (vs44 l sh all al2 0 al2.length j) = some out := by
        intro m
        induction m with
        | zero =>
          intro j hj h
          refine ⟨1, ?_⟩
          rw [step44]
          have hd : decide ((j : Int) < (al2.length : Int)) = false := by simp; omega
          rw [List.drop_of_length_le (by omega)] at h
          rw [hd, show (j : Int) = al2.length by omega]
          exact h
        | succ m ih =>
          intro j hj h
          have hlt : j < al2.length := by omega
          have hd : decide ((j : Int) < (al2.length : Int)) = true := by simp; omega
          have hb : inB (j : Int) al2.length = true := by simp [inB]; omega
          have hb2 : inB (j : Int) sh.length = true := by simp [inB]; omega
          have hb0 : inB (0 : Int) all.length = true := by simp [inB]; omega
          rw [vAt_drop hlt] at h
          simp only [isGo, isAt] at h
          cases hx : checkV l (vAt al2 j) != 0 with
          | true =>
            refine ⟨1, ?_⟩
            rw [step44, hd, hb]
            simp only [cond_true, hx]
            have hz : (checkV l (vAt al2 j) == 0) = false := by simpa using hx
            simp only [hx, cond_true, hz, cond_false] at h
            exact h
          | false =>
            simp only [hx, cond_false] at h
            have hz : checkV l (vAt al2 j) = 0 := by simpa using hx
            have fin : ∀ own, ownV l (vAt al2 j) = own → ∃ fuel, (bif !own == sh.getD (j : Int).toNat false then K .ret (vs44 l sh all al2 1 al2.length j)
                else bif inB 0 all.length then
                  bif !((vAt al2 j).1 == (vAt all 0).1) then K .ret (vs44 l sh all al2 1 al2.length j)
                  else loopN (aexec tb Γ44 Λ44 ⟨51, 0, [(0, live44)]⟩ (loop1 F44).2 0) 51 0 live44 K fuel (vs44 l sh all al2 0 al2.length (IntKind.i64.wrap (j + 1)))
                else none) = some out := by
              intro own ho
              rw [ho] at h
              simp only [Int.toNat_natCast, hb0, cond_true]
              cases h1 : !own == sh.getD j false with
              | true =>
                refine ⟨0, ?_⟩
                simp only [h1, cond_true] at h ⊢
                exact h
              | false =>
                simp only [h1, cond_false] at h ⊢
                cases h2 : !((vAt al2 j).1 == (vAt all 0).1) with
                | true =>
                  refine ⟨0, ?_⟩
                  simp only [h2, cond_true] at h ⊢
                  exact h
                | false =>
                  simp only [h2, cond_false] at h ⊢
                  obtain ⟨fuel, hf⟩ := ih (j + 1) (by omega) h
                  refine ⟨fuel, ?_⟩
                  rw [wrap64 (by omega) (by omega)]
                  exact hf
            cases hv : (vAt al2 j).1 with
            | true =>
              obtain ⟨fuel, hf⟩ := fin _ (by unfold ownV; rw [hv])
              refine ⟨fuel + 1, ?_⟩
              obtain ⟨s1, s2⟩ := sym_of hz hv
              have hbt : inB (vAt al2 j).2.2.2.2 l.length = true := by simp only [inB, Bool.and_eq_true, decide_eq_true_eq]; exact ⟨s1, s2⟩
              rw [step44, hd, hb]
              simp only [cond_true, hx, cond_false, hv, hbt, hb2] at hf ⊢
              exact hf
            | false =>
              obtain ⟨fuel, hf⟩ := fin _ (by unfold ownV; rw [hv])
              refine ⟨fuel + 1, ?_⟩
              rw [step44, hd, hb]
              simp only [cond_true, hx, cond_false, hv, hb2] at hf ⊢
              exact hf
      exact key al2.length 0 (by omega) h
  · cases h
def isV (l : List Term.D) (sh : List Bool) (all : List Value.D) : Int := isGo l sh (vAt all 0) all 0
theorem r44 (l : List Term.D) (sh : List Bool) (all : List Value.D) : run Γ44 Λ44 [(0, live44)] F44 (encA [.v (.sl Term), .v (.sl .bool), .v (.sl Value)] (l, sh, all)) [] =
    bif decide ((all.length : Int) = all.length) && decide ((all.length : Int) ≤ 9223372036854775807) && decide (all.length ≤ sh.length) && decide (all.length ≤ all.length) then
      bif isV l sh all == 0 then some (.one (.int .i64 0)) else some (.one (.int .i64 (isV l sh all)))
    else none := by kernel_rfl
def s44 : Sp := .fn [.v (.sl Term), .v (.sl .bool), .v (.sl Value)] fun x => (decide (x.2.2.length ≤ x.2.1.length), .one (.int .i64 (isV x.1 x.2.1 x.2.2)))
theorem g44 : GoodS Try.prog N44 s44 := by
  refine good (.cons g19 (.nil _)) H44 rfl (by kernel_rfl) Λ44 [(0, live44)] (oneLoop (p0 := loop1 F44) (by kernel_rfl) loop44) [.v (.sl Term), .v (.sl .bool), .v (.sl Value)] (by decide) [] _ fun x r hw h => ?_
  obtain ⟨l, sh, all⟩ := x
  simp only [Prod.mk.injEq] at h
  obtain ⟨h1, rfl⟩ := h
  refine (r44 l sh all).trans ?_
  have hmax : (all.length : Int) ≤ 9223372036854775807 := by have : all.length ≤ 9223372036854775807 := hw.2.2.1; omega
  simp only [decide_eq_true hmax, decide_true, Bool.and_self, cond_true, h1, Nat.le_refl]
  cases hq : isV l sh all == 0 with
  | true => rw [eq_of_beq hq]; rfl
  | false => rfl
def Γ17 : Orc := orc [(N44, s44), (N45, s45), (N46, s46), (N47, s47)]
def Γ18 : Orc := orc [(N44, s44), (N48, s48)]
def Γ20 : Orc := orc [(N45, s45), (N47, s47), (N49, s49)]
/-! ### value.Wrap, Unwrap, Atom -/
@[reducible] def V3 : List AK := [.v (.sl Term), .v Value, .v Value]
def wrapV (l : List Term.D) (k v : Value.D) : Value.D × List Term.D × Int :=
  bif isV l [false, false] [k, v] != 0 then (zeroV, [], isV l [false, false] [k, v]) else bif k.1 then madeV l (5, k.2.2.2.2, v.2.2.2.2) else (sealV (wrapB k.2.2.1 v.2.2.1), l, 0)
theorem r17 (l : List Term.D) (k v : Value.D) : run Γ17 noL [] F17 (encA V3 (l, k, v)) wVle =
    bif isV l [false, false] [k, v] != 0 then some (vle (zeroV, [], isV l [false, false] [k, v])) else
    bif k.1 then some (vle (madeV l (5, k.2.2.2.2, v.2.2.2.2))) else bif small24 l.length then some (vle (sealV (wrapB k.2.2.1 v.2.2.1), l, 0)) else none := by kernel_rfl
theorem isGo_two (l : List Term.D) (a b : Bool) (v w : Value.D) : isGo l [a, b] (vAt [v, w] 0) [v, w] 0 = bif checkV l v != 0 then checkV l v else bif !(ownV l v == a) then 1 else
    bif checkV l w != 0 then checkV l w else bif !(ownV l w == b) then 1 else bif !(w.1 == v.1) then 1 else 0 := by
  have e : vAt [v, w] 0 = v := rfl
  rw [e]
  simp only [isGo, List.getD_cons_zero, Nat.zero_add, List.getD_cons_succ, beq_self_eq_true, Bool.not_true, cond_false]
theorem isV_two {l : List Term.D} {a b : Bool} {v w : Value.D} : isV l [a, b] [v, w] = 0 ↔ checkV l v = 0 ∧ checkV l w = 0 ∧ ownV l v = a ∧ ownV l w = b ∧ w.1 = v.1 := by
  unfold isV
  rw [isGo_two]
  rcases checkV_one l v with h1 | h1 <;> rcases checkV_one l w with h2 | h2 <;> rw [h1] <;> try rw [h2]
  all_goals
    cases h3 : !(ownV l v == a) <;> cases h4 : !(ownV l w == b) <;> cases h5 : !(w.1 == v.1) <;> simp at h3 h4 h5 <;> simp [h3, h4, h5]
theorem isV_two_one (l : List Term.D) (a b : Bool) (v w : Value.D) : isV l [a, b] [v, w] = 0 ∨ isV l [a, b] [v, w] = 1 := by
  unfold isV
  rw [isGo_two]
  rcases checkV_one l v with h1 | h1 <;> rcases checkV_one l w with h2 | h2 <;> rw [h1] <;> try rw [h2]
  all_goals
    cases h3 : !(ownV l v == a) <;> cases h4 : !(ownV l w == b) <;> cases h5 : !(w.1 == v.1) <;> simp
theorem checkL_small {l : List Term.D} (h : checkL l = 0) : l.length ≤ 65536 := by
  rcases checkL_cases l with ⟨_, h1⟩ | ⟨h1, _⟩
  · exact ixL_len h1
  · rw [h1] at h; cases h
def s17 : Sp := .fn V3 fun x => (true, vle (wrapV x.1 x.2.1 x.2.2))
theorem g17 : GoodS Try.prog N17 s17 := by
  refine good (.cons g44 (.cons g45 (.cons g46 (.cons g47 (.nil _))))) H17 rfl (by kernel_rfl) noL [] (noLoops (by kernel_rfl)) V3 (by decide) wVle _ fun x r hw h => ?_
  obtain ⟨l, k, v⟩ := x
  cases h
  refine (r17 l k v).trans ?_
  simp only [wrapV]
  cases h0 : isV l [false, false] [k, v] != 0 with
  | true => rfl
  | false =>
    cases k.1 with
    | true => rfl
    | false =>
      have hz : isV l [false, false] [k, v] = 0 := by simpa using h0
      rw [small_of (checkL_small (checkV_zero.1 (isV_two.1 hz).1).1)]; rfl
def ve (x : Value.D × Int) : AV := .tup [(true, enc Value true x.1), (false, [.int .i64 x.2])]
def unwrapV (l : List Term.D) (k w : Value.D) : Value.D × Int :=
  bif isV l [false, true] [k, w] != 0 then (zeroV, isV l [false, true] [k, w]) else bif !k.1 then (octV (unwrapR k.2.2.1 w.2.2.2.1).1, (unwrapR k.2.2.1 w.2.2.2.1).2) else
  bif (tAt l w.2.2.2.2).2.1 != k.2.2.2.2 then (zeroV, 7) else (symV (tAt l w.2.2.2.2).2.2, 0)
theorem r18 (l : List Term.D) (k w : Value.D) : run Γ18 noL [] F18 (encA V3 (l, k, w)) [] =
    bif isV l [false, true] [k, w] != 0 then some (ve (zeroV, isV l [false, true] [k, w])) else bif !k.1 then some (ve (octV (unwrapR k.2.2.1 w.2.2.2.1).1, (unwrapR k.2.2.1 w.2.2.2.1).2)) else
    bif inB w.2.2.2.2 l.length then bif (tAt l w.2.2.2.2).2.1 != k.2.2.2.2 then some (ve (zeroV, 7)) else some (ve (symV (tAt l w.2.2.2.2).2.2, 0)) else none := by kernel_rfl
def s18 : Sp := .fn V3 fun x => (true, ve (unwrapV x.1 x.2.1 x.2.2))
theorem g18 : GoodS Try.prog N18 s18 := by
  refine good (.cons g44 (.cons g48 (.nil _))) H18 rfl (by kernel_rfl) noL [] (noLoops (by kernel_rfl)) V3 (by decide) [] _ fun x r hw h => ?_
  obtain ⟨l, k, w⟩ := x
  cases h
  refine (r18 l k w).trans ?_
  simp only [unwrapV]
  cases h0 : isV l [false, true] [k, w] != 0 with
  | true => rfl
  | false =>
    cases hk : k.1 with
    | false => rfl
    | true =>
      have hz : isV l [false, true] [k, w] = 0 := by simpa using h0
      obtain ⟨_, h2, _, _, h5⟩ := isV_two.1 hz
      obtain ⟨s1, s2⟩ := sym_of h2 (h5.trans hk)
      have hb : inB w.2.2.2.2 l.length = true := by simp only [inB, Bool.and_eq_true, decide_eq_true_eq]; exact ⟨s1, s2⟩
      rw [hb]
      simp only [cond_false, cond_true, Bool.not_true]
      cases (tAt l w.2.2.2.2).2.1 != k.2.2.2.2 <;> rfl
@[reducible] def A4 : List AK := [.v (.sl Term), .v .bool, .v I, .v Block]
def atomV (l : List Term.D) (s : Bool) (n : Int) (b : Block.D) : Value.D × List Term.D × Int := bif s then madeV l (1, n, 0) else bif checkL l != 0 then (zeroV, [], checkL l) else (octV b, l, 0)
theorem r20 (l : List Term.D) (s : Bool) (n : Int) (b : Block.D) : run Γ20 noL [] F20 (encA A4 (l, s, n, b)) wVle =
    bif s then some (vle (madeV l (1, n, 0))) else bif checkL l != 0 then some (vle (zeroV, [], checkL l)) else bif small24 l.length then some (vle (octV b, l, 0)) else none := by kernel_rfl
def s20 : Sp := .fn A4 fun x => (true, vle (atomV x.1 x.2.1 x.2.2.1 x.2.2.2))
theorem g20 : GoodS Try.prog N20 s20 := by
  refine good (.cons g45 (.cons g47 (.cons g49 (.nil _)))) H20 rfl (by kernel_rfl) noL [] (noLoops (by kernel_rfl)) A4 (by decide) wVle _ fun x r hw h => ?_
  obtain ⟨l, s, n, b⟩ := x
  cases h
  refine (r20 l s n b).trans ?_
  simp only [atomV]
  cases s with
  | true => rfl
  | false =>
    cases h0 : checkL l != 0 with
    | true => rfl
    | false => rw [small_of (checkL_small (by simpa using h0))]; rfl
end Go.AM.Seat
