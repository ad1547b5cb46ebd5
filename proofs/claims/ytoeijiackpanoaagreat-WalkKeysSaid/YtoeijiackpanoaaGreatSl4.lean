/- The seat: contracts and plain laws, in order (cut out of all texts by a program). -/
import Derived.Test.YtoeijiackpanoaaGreatSl3
set_option linter.unusedVariables false
set_option linter.unusedSimpArgs false
set_option maxRecDepth 100000
namespace Go.AM.Seat
open Go Go.AM Go.Proofs

def zeroV : Value.D := (false, false, (0, 0), ((0, 0), (0, 0)), 0)
def symV (i : Int) : Value.D := (true, false, (0, 0), ((0, 0), (0, 0)), i)
def sealV (s : Sealed.D) : Value.D := (false, true, (0, 0), s, 0)
def octV (b : Block.D) : Value.D := (false, false, b, ((0, 0), (0, 0)), 0)
def valEq (a b : Value.D) : Bool :=
  (a.1 == b.1) && ((a.2.1 == b.2.1) && ((a.2.2.1.1 == b.2.2.1.1) && ((a.2.2.1.2 == b.2.2.1.2) && ((a.2.2.2.1.1.1 == b.2.2.2.1.1.1) && ((a.2.2.2.1.1.2 == b.2.2.2.1.1.2) &&
    ((a.2.2.2.1.2.1 == b.2.2.2.1.2.1) && ((a.2.2.2.1.2.2 == b.2.2.2.1.2.2) && (a.2.2.2.2 == b.2.2.2.2))))))))
/-- A value, terms, and an error, as they are handed back. -/
def vle (x : Value.D × List Term.D × Int) : AV := .tup [(true, enc Value true x.1), (false, [.sl true Term none x.2.1]), (false, [.int .i64 x.2.2])]
abbrev wVle : List WK := [.id, .sl true Term, .id]
def Γ45 : Orc := orc [(N84, s84)]
def madeV (l : List Term.D) (t : Term.D) : Value.D × List Term.D × Int := bif (makeL l t).2.2 != 0 then (zeroV, [], (makeL l t).2.2) else (symV (makeL l t).1, (makeL l t).2.1, 0)
theorem r45 (l : List Term.D) (t : Term.D) : run Γ45 noL [] F45 (encA [.v (.sl Term), .v Term] (l, t)) wVle =
    bif (makeL l t).2.2 != 0 then some (vle (zeroV, [], (makeL l t).2.2)) else some (vle (symV (makeL l t).1, (makeL l t).2.1, 0)) := by kernel_rfl
def s45 : Sp := .fn [.v (.sl Term), .v Term] fun x => (true, vle (madeV x.1 x.2))
theorem g45 : GoodS Tryz.prog N45 s45 := by
  refine good (.cons g84 (.nil _)) H45 rfl (by kernel_rfl) noL [] (noLoops (by kernel_rfl)) [.v (.sl Term), .v Term] (by decide) wVle _ fun x r hw h => ?_
  cases h
  refine (r45 x.1 x.2).trans ?_
  simp only [madeV]
  cases (makeL x.1 x.2).2.2 != 0 <;> rfl
def Γ19 : Orc := orc [(N49, s49)]
def isSym (l : List Term.D) (v : Value.D) : Bool := bif bif v.1 then decide (v.2.2.2.2 ≥ 0) else false then decide (v.2.2.2.2 < (l.length : Int)) else false
def plainV (l : List Term.D) (v : Value.D) : Value.D := bif isSym l v then symV v.2.2.2.2 else bif v.2.1 then sealV v.2.2.2.1 else octV v.2.2.1
def checkV (l : List Term.D) (v : Value.D) : Int := bif bif checkL l == 0 then !valEq v (plainV l v) else false then 1 else checkL l
def fin19 (l : List Term.D) (v p : Value.D) : Option AV := bif bif checkL l == 0 then !valEq v p else false then some (.one (.int .i64 1)) else some (.one (.int .i64 (checkL l)))
theorem r19 (l : List Term.D) (v : Value.D) : run Γ19 noL [] F19 (encA [.v (.sl Term), .v Value] (l, v)) [] =
    bif isSym l v then fin19 l v (symV v.2.2.2.2) else bif v.2.1 then fin19 l v (sealV v.2.2.2.1) else fin19 l v (octV v.2.2.1) := by kernel_rfl
def s19 : Sp := .fn [.v (.sl Term), .v Value] fun x => (true, .one (.int .i64 (checkV x.1 x.2)))
theorem g19 : GoodS Tryz.prog N19 s19 := by
  refine good (.cons g49 (.nil _)) H19 rfl (by kernel_rfl) noL [] (noLoops (by kernel_rfl)) [.v (.sl Term), .v Value] (by decide) [] _ fun x r hw h => ?_
  obtain ⟨l, v⟩ := x
  cases h
  refine (r19 l v).trans ?_
  simp only [checkV, plainV, fin19]
  cases isSym l v <;> cases v.2.1 <;> simp only [cond_true, cond_false] <;> (cases bif checkL l == 0 then !valEq v _ else false) <;> rfl
abbrev live44 : List (Nat × Dir) := [(0, .keep), (1, .keep), (2, .keep), (6, .keep), (11, .keep), (12, .keep), (13, .keep)]
def Γ44 : Orc := orc [(N19, s19)]
def vs44 (l : List Term.D) (sh : List Bool) (all al2 : List Value.D) (r n i : Int) : List AV :=
  [.one (.sl false Term none l), .one (.sl false .bool none sh), .one (.sl false Value none all), .one (.int .i64 r), .one (.sl false Value none al2), .one (.int .i64 n), .one (.int .i64 i)]
def ownV (l : List Term.D) (v : Value.D) : Bool := bif v.1 then (tAt l v.2.2.2.2).1 == 5 else v.2.1
def isGo (l : List Term.D) (sh : List Bool) (v0 : Value.D) : List Value.D → Nat → Int
  | [], _ => 0
  | v :: r, i => bif checkV l v != 0 then checkV l v else bif !(ownV l v == sh.getD i false) then 1 else bif !(v.1 == v0.1) then 1 else isGo l sh v0 r (i + 1)
/-- Where that stops. -/
def isAt (l : List Term.D) (sh : List Bool) (v0 : Value.D) : List Value.D → Nat → Nat
  | [], i => i
  | v :: r, i => bif checkV l v != 0 then i else bif !(ownV l v == sh.getD i false) then i else bif !(v.1 == v0.1) then i else isAt l sh v0 r (i + 1)
def vAt (all : List Value.D) (i : Int) : Value.D := all.getD i.toNat zeroV
def Λ44 : Lam AV := fun cur vs K =>
  match cur, vs with
  | 0, [.one (.sl false (.pair (.int .i64) (.pair (.int .i64) (.int .i64))) none l), .one (.sl false .bool none sh), .one (.sl false (.pair .bool (.pair .bool (.pair (.pair (.int .u64) (.int .u64)) (.pair (.pair (.pair (.int .u64) (.int .u64)) (.pair (.int .u64) (.int .u64))) (.int .i64))))) none all),
      .one (.int .i64 0), .one (.sl false (.pair .bool (.pair .bool (.pair (.pair (.int .u64) (.int .u64)) (.pair (.pair (.pair (.int .u64) (.int .u64)) (.pair (.int .u64) (.int .u64))) (.int .i64))))) none al2), .one (.int .i64 n), .one (.int .i64 0)] =>
    bif decide (n = al2.length) && decide (n ≤ 9223372036854775807) && decide (al2.length ≤ sh.length) && decide (al2.length ≤ all.length) then
      bif isGo l sh (vAt all 0) al2 0 == 0 then K (.exit 0) (vs44 l sh all al2 0 n n) else K .ret (vs44 l sh all al2 (isGo l sh (vAt all 0) al2 0) n (isAt l sh (vAt all 0) al2 0))
    else none
  | _, _ => none
theorem step44 (l : List Term.D) (sh : List Bool) (all al2 : List Value.D) (r n i : Int) (K : AE → List AV → Option AV) (fuel : Nat) :
    loopN (aexec tb Γ44 Λ44 ⟨51, 0, [(0, live44)]⟩ (loop1 F44).2 0) 51 0 live44 K (fuel + 1) (vs44 l sh all al2 r n i) =
    bif decide (i < n) then
      bif inB i al2.length then
        bif checkV l (vAt al2 i) != 0 then K .ret (vs44 l sh all al2 (checkV l (vAt al2 i)) n i)
        else bif (vAt al2 i).1 then
          bif inB (vAt al2 i).2.2.2.2 l.length then
            bif inB i sh.length then
              bif !((tAt l (vAt al2 i).2.2.2.2).1 == 5) == sh.getD i.toNat false then K .ret (vs44 l sh all al2 1 n i)
              else bif inB 0 all.length then
                bif !((vAt al2 i).1 == (vAt all 0).1) then K .ret (vs44 l sh all al2 1 n i)
                else loopN (aexec tb Γ44 Λ44 ⟨51, 0, [(0, live44)]⟩ (loop1 F44).2 0) 51 0 live44 K fuel (vs44 l sh all al2 r n (IntKind.i64.wrap (i + 1)))
              else none
            else none
          else none
        else
          bif inB i sh.length then
            bif !(vAt al2 i).2.1 == sh.getD i.toNat false then K .ret (vs44 l sh all al2 1 n i)
            else bif inB 0 all.length then
              bif !((vAt al2 i).1 == (vAt all 0).1) then K .ret (vs44 l sh all al2 1 n i)
              else loopN (aexec tb Γ44 Λ44 ⟨51, 0, [(0, live44)]⟩ (loop1 F44).2 0) 51 0 live44 K fuel (vs44 l sh all al2 r n (IntKind.i64.wrap (i + 1)))
            else none
          else none
      else none
    else K (.exit 0) (vs44 l sh all al2 r n i) := by kernel_rfl
theorem valEq_iff {a b : Value.D} : valEq a b = true ↔ a = b := by
  obtain ⟨a1, a2, ⟨a3, a4⟩, ⟨⟨a5, a6⟩, a7, a8⟩, a9⟩ := a
  obtain ⟨b1, b2, ⟨b3, b4⟩, ⟨⟨b5, b6⟩, b7, b8⟩, b9⟩ := b
  simp [valEq, and_assoc]
theorem checkV_zero {l : List Term.D} {v : Value.D} : checkV l v = 0 ↔ checkL l = 0 ∧ v = plainV l v := by
  unfold checkV
  rcases checkL_cases l with ⟨h, _⟩ | ⟨h, _⟩
  · rw [h]
    cases hq : valEq v (plainV l v) with
    | true => exact ⟨fun _ => ⟨rfl, valEq_iff.1 hq⟩, fun _ => rfl⟩
    | false =>
      have : ¬ v = plainV l v := fun e => by rw [valEq_iff.2 e] at hq; cases hq
      simp [this]
  · rw [h]; simp
theorem checkV_one (l : List Term.D) (v : Value.D) : checkV l v = 0 ∨ checkV l v = 1 := by
  unfold checkV
  rcases checkL_cases l with ⟨h, _⟩ | ⟨h, _⟩
  · rw [h]
    cases hq : valEq v (plainV l v) with
    | true => exact .inl rfl
    | false => exact .inr rfl
  · rw [h]; exact .inr rfl
theorem sym_of {l : List Term.D} {v : Value.D} (h : checkV l v = 0) (hs : v.1 = true) : 0 ≤ v.2.2.2.2 ∧ v.2.2.2.2 < l.length := by
  have h2 := (checkV_zero.1 h).2
  cases hi : isSym l v with
  | true =>
    unfold isSym at hi
    rw [hs] at hi
    simp only [cond_true] at hi
    cases h0 : decide (v.2.2.2.2 ≥ 0) with
    | false => rw [h0] at hi; cases hi
    | true => rw [h0] at hi; simp at h0 hi; exact ⟨h0, hi⟩
  | false =>
    unfold plainV at h2
    rw [hi] at h2
    simp only [cond_false] at h2
    cases hb : v.2.1 with
    | true => rw [hb] at h2; rw [h2] at hs; cases hs
    | false => rw [hb] at h2; rw [h2] at hs; cases hs
theorem vAt_drop {all : List Value.D} {j : Nat} (h : j < all.length) : all.drop j = vAt all j :: all.drop (j + 1) := by
  rw [List.drop_eq_getElem_cons h]
  simp [vAt, h]
theorem loop44 : LoopP tb Γ44 Λ44 ⟨51, 0, [(0, live44)]⟩ (loop1 F44) := by
  intro vs K out h
  have hcur : (loop1 F44).1 = 0 := by kernel_rfl
  rw [hcur] at h ⊢
  unfold Λ44 at h
  split at h
  · rename_i l sh all al2 n _
    cases hc : (decide (n = al2.length) && decide (n ≤ 9223372036854775807) && decide (al2.length ≤ sh.length) && decide (al2.length ≤ all.length)) with
    | false => rw [hc] at h; cases h
    | true =>
      rw [hc] at h
      simp only [cond_true] at h
      simp only [Bool.and_eq_true, decide_eq_true_eq] at hc
      obtain ⟨⟨⟨hn, hmax⟩, hsh⟩, hal⟩ := hc
      subst hn
      have key : ∀ (m j : Nat), j + m = al2.length → (bif isGo l sh (vAt all 0) (al2.drop j) j == 0 then K (.exit 0) (vs44 l sh all al2 0 al2.length al2.length)
            else K .ret (vs44 l sh all al2 (isGo l sh (vAt all 0) (al2.drop j) j) al2.length (isAt l sh (vAt all 0) (al2.drop j) j))) = some out →
          ∃ fuel, loopN (aexec tb Γ44 Λ44 ⟨51, 0, [(0, live44)]⟩ (loop1 F44).2 0) 51 0 live44 K fuel (vs44 l sh all al2 0 al2.length j) = some out := by
        intro m
        induction m with
        | zero =>
          intro j hj h
          refine ⟨1, ?_⟩
          rw [step44]
          have hd : decide ((j : Int) < (al2.length : Int)) = false := by simp; omega
          rw [List.drop_of_length_le (by omega)] at h
          rw [hd, show (j : Int) = al2.length by omega]
          exact h
        | succ m ih =>
          intro j hj h
          have hlt : j < al2.length := by omega
          have hd : decide ((j : Int) < (al2.length : Int)) = true := by simp; omega
          have hb : inB (j : Int) al2.length = true := by simp [inB]; omega
          have hb2 : inB (j : Int) sh.length = true := by simp [inB]; omega
          have hb0 : inB (0 : Int) all.length = true := by simp [inB]; omega
          rw [vAt_drop hlt] at h
          simp only [isGo, isAt] at h
          cases hx : checkV l (vAt al2 j) != 0 with
          | true =>
            refine ⟨1, ?_⟩
            rw [step44, hd, hb]
            simp only [cond_true, hx]
            have hz : (checkV l (vAt al2 j) == 0) = false := by simpa using hx
            simp only [hx, cond_true, hz, cond_false] at h
            exact h
          | false =>
            simp only [hx, cond_false] at h
            have hz : checkV l (vAt al2 j) = 0 := by simpa using hx
            have fin : ∀ own, ownV l (vAt al2 j) = own → ∃ fuel, (bif !own == sh.getD (j : Int).toNat false then K .ret (vs44 l sh all al2 1 al2.length j)
                else bif inB 0 all.length then
                  bif !((vAt al2 j).1 == (vAt all 0).1) then K .ret (vs44 l sh all al2 1 al2.length j)
                  else loopN (aexec tb Γ44 Λ44 ⟨51, 0, [(0, live44)]⟩ (loop1 F44).2 0) 51 0 live44 K fuel (vs44 l sh all al2 0 al2.length (IntKind.i64.wrap (j + 1)))
                else none) = some out := by
              intro own ho
              rw [ho] at h
              simp only [Int.toNat_natCast, hb0, cond_true]
              cases h1 : !own == sh.getD j false with
              | true =>
                refine ⟨0, ?_⟩
                simp only [h1, cond_true] at h ⊢
                exact h
              | false =>
                simp only [h1, cond_false] at h ⊢
                cases h2 : !((vAt al2 j).1 == (vAt all 0).1) with
                | true =>
                  refine ⟨0, ?_⟩
                  simp only [h2, cond_true] at h ⊢
                  exact h
                | false =>
                  simp only [h2, cond_false] at h ⊢
                  obtain ⟨fuel, hf⟩ := ih (j + 1) (by omega) h
                  refine ⟨fuel, ?_⟩
                  rw [wrap64 (by omega) (by omega)]
                  exact hf
            cases hv : (vAt al2 j).1 with
            | true =>
              obtain ⟨fuel, hf⟩ := fin _ (by unfold ownV; rw [hv])
              refine ⟨fuel + 1, ?_⟩
              obtain ⟨s1, s2⟩ := sym_of hz hv
              have hbt : inB (vAt al2 j).2.2.2.2 l.length = true := by simp only [inB, Bool.and_eq_true, decide_eq_true_eq]; exact ⟨s1, s2⟩
              rw [step44, hd, hb]
              simp only [cond_true, hx, cond_false, hv, hbt, hb2] at hf ⊢
              exact hf
            | false =>
              obtain ⟨fuel, hf⟩ := fin _ (by unfold ownV; rw [hv])
              refine ⟨fuel + 1, ?_⟩
              rw [step44, hd, hb]
              simp only [cond_true, hx, cond_false, hv, hb2] at hf ⊢
              exact hf
      exact key al2.length 0 (by omega) h
  · cases h
def isV (l : List Term.D) (sh : List Bool) (all : List Value.D) : Int := isGo l sh (vAt all 0) all 0
theorem r44 (l : List Term.D) (sh : List Bool) (all : List Value.D) : run Γ44 Λ44 [(0, live44)] F44 (encA [.v (.sl Term), .v (.sl .bool), .v (.sl Value)] (l, sh, all)) [] =
    bif decide ((all.length : Int) = all.length) && decide ((all.length : Int) ≤ 9223372036854775807) && decide (all.length ≤ sh.length) && decide (all.length ≤ all.length) then
      bif isV l sh all == 0 then some (.one (.int .i64 0)) else some (.one (.int .i64 (isV l sh all)))
    else none := by kernel_rfl
def s44 : Sp := .fn [.v (.sl Term), .v (.sl .bool), .v (.sl Value)] fun x => (decide (x.2.2.length ≤ x.2.1.length), .one (.int .i64 (isV x.1 x.2.1 x.2.2)))
theorem g44 : GoodS Tryz.prog N44 s44 := by
  refine good (.cons g19 (.nil _)) H44 rfl (by kernel_rfl) Λ44 [(0, live44)] (oneLoop (p0 := loop1 F44) (by kernel_rfl) loop44) [.v (.sl Term), .v (.sl .bool), .v (.sl Value)] (by decide) [] _ fun x r hw h => ?_
  obtain ⟨l, sh, all⟩ := x
  simp only [Prod.mk.injEq] at h
  obtain ⟨h1, rfl⟩ := h
  refine (r44 l sh all).trans ?_
  have hmax : (all.length : Int) ≤ 9223372036854775807 := by have : all.length ≤ 9223372036854775807 := hw.2.2.1; omega
  simp only [decide_eq_true hmax, decide_true, Bool.and_self, cond_true, h1, Nat.le_refl]
  cases hq : isV l sh all == 0 with
  | true => rw [eq_of_beq hq]; rfl
  | false => rfl
theorem checkL_small {l : List Term.D} (h : checkL l = 0) : l.length ≤ 65536 := by
  rcases checkL_cases l with ⟨_, h1⟩ | ⟨h1, _⟩
  · exact ixL_len h1
  · rw [h1] at h; cases h
def Γ22 : Orc := orc [(N44, s44), (N45, s45), (N47, s47), (N53, s53)]
@[reducible] def P3 : List AK := [.v (.sl Term), .v Value, .v I]
def partBad (l : List Term.D) (v : Value.D) (i : Int) : Bool := bif bif isV l [false] [v] != 0 then true else decide (i < 0) then true else decide (i > 2)
def partV (l : List Term.D) (v : Value.D) (i : Int) : Value.D × List Term.D × Int :=
  bif partBad l v i then (zeroV, [], 1) else bif v.1 then madeV l (IntKind.i64.wrap (2 + i), v.2.2.2.2, 0) else (octV (partR v.2.2.1 i).1, l, (partR v.2.2.1 i).2)
theorem r22 (l : List Term.D) (v : Value.D) (i : Int) : run Γ22 noL [] F22 (encA P3 (l, v, i)) wVle =
    bif partBad l v i then some (vle (zeroV, [], 1)) else
    bif v.1 then some (vle (madeV l (IntKind.i64.wrap (2 + i), v.2.2.2.2, 0))) else bif small24 l.length then some (vle (octV (partR v.2.2.1 i).1, l, (partR v.2.2.1 i).2)) else none := by kernel_rfl
theorem isV_one {l : List Term.D} {a : Bool} {v : Value.D} : isV l [a] [v] = 0 ↔ checkV l v = 0 ∧ ownV l v = a := by
  unfold isV
  have e : isGo l [a] (vAt [v] 0) [v] 0 = bif checkV l v != 0 then checkV l v else bif !(ownV l v == a) then 1 else 0 := by
    show isGo l [a] v [v] 0 = _
    simp only [isGo, List.getD_cons_zero, beq_self_eq_true, Bool.not_true, cond_false]
  rw [e]
  rcases checkV_one l v with h1 | h1 <;> rw [h1]
  all_goals
    cases h3 : !(ownV l v == a) <;> simp at h3 <;> simp [h3]
def s22 : Sp := .fn P3 fun x => (true, vle (partV x.1 x.2.1 x.2.2))
theorem g22 : GoodS Tryz.prog N22 s22 := by
  refine good (.cons g44 (.cons g45 (.cons g47 (.cons g53 (.nil _))))) H22 rfl (by kernel_rfl) noL [] (noLoops (by kernel_rfl)) P3 (by decide) wVle _ fun x r hw h => ?_
  obtain ⟨l, v, i⟩ := x
  cases h
  refine (r22 l v i).trans ?_
  simp only [partV]
  cases h0 : partBad l v i with
  | true => rfl
  | false =>
    cases v.1 with
    | true => rfl
    | false =>
      unfold partBad at h0
      cases h1 : isV l [false] [v] != 0 with
      | true => rw [h1] at h0; cases h0
      | false =>
        have hz : isV l [false] [v] = 0 := by simpa using h1
        rw [small_of (checkL_small (checkV_zero.1 (isV_one.1 hz).1).1)]; rfl

theorem plain_sym {l : List Term.D} {v : Value.D} (h : checkV l v = 0) (hs : v.1 = true) : v = symV v.2.2.2.2 ∧ 0 ≤ v.2.2.2.2 ∧ v.2.2.2.2 < l.length := by
  obtain ⟨s1, s2⟩ := sym_of h hs
  have h2 := (checkV_zero.1 h).2
  have hi : isSym l v = true := by
    unfold isSym
    rw [hs, decide_eq_true s1, decide_eq_true s2]; rfl
  unfold plainV at h2
  rw [hi] at h2
  exact ⟨h2, s1, s2⟩
theorem plain_oct {l : List Term.D} {v : Value.D} (h : checkV l v = 0) (hs : v.1 = false) : (v.2.1 = true ∧ v = sealV v.2.2.2.1) ∨ (v.2.1 = false ∧ v = octV v.2.2.1) := by
  have h2 := (checkV_zero.1 h).2
  have hi : isSym l v = false := by unfold isSym; rw [hs]; rfl
  unfold plainV at h2
  rw [hi] at h2
  cases hb : v.2.1 with
  | true => rw [hb] at h2; exact .inl ⟨rfl, h2⟩
  | false => rw [hb] at h2; exact .inr ⟨rfl, h2⟩
theorem madeV_len (l : List Term.D) (t : Term.D) : (madeV l t).2.1.length ≤ l.length + 1 := by
  unfold madeV
  cases (makeL l t).2.2 != 0
  · exact makeL_len l t
  · simp
theorem check_sym {l : List Term.D} {i : Int} (h : GoodL l) (h0 : 0 ≤ i) (h1 : i < l.length) : checkV l (symV i) = 0 := by
  refine checkV_zero.2 ⟨checkL_iff.2 h, ?_⟩
  have : isSym l (symV i) = true := by unfold isSym symV; simp [h0, h1]
  unfold plainV
  rw [this]; rfl
theorem check_oct {l : List Term.D} (h : GoodL l) (b : Block.D) : checkV l (octV b) = 0 := checkV_zero.2 ⟨checkL_iff.2 h, rfl⟩
theorem madeV_cases (l : List Term.D) (t : Term.D) : ((madeV l t).2.2 ≠ 0 ∧ madeV l t = (zeroV, [], (madeV l t).2.2)) ∨ ((makeL l t).2.2 = 0 ∧ madeV l t = (symV (makeL l t).1, (makeL l t).2.1, 0)) := by
  unfold madeV
  cases h : (makeL l t).2.2 != 0 with
  | true => exact .inl ⟨by simpa using h, rfl⟩
  | false => exact .inr ⟨by simpa using h, rfl⟩
/-- What is made is an extension of what was there. -/
theorem madeV_ok {l : List Term.D} {t : Term.D} (h : (madeV l t).2.2 = 0) : ∃ (i : Nat) (r : List Term.D), madeV l t = (symV i, l ++ r, 0) ∧ GoodL l ∧ GoodL (l ++ r) ∧ (l ++ r)[i]? = some t ∧ mayB t l.length = true := by
  rcases madeV_cases l t with ⟨h1, _⟩ | ⟨h1, h2⟩
  · exact absurd h h1
  · obtain ⟨g1, g2, i, g3, g4, g5, g6⟩ := makeL_ok h1
    rw [h2, g3]
    rcases g6 with ⟨_, e⟩ | ⟨_, _, _, e⟩
    · rw [e] at g4 g5 ⊢
      exact ⟨i, [], by simp, g1, by simpa using g4, by simpa using g5, g2⟩
    · rw [e] at g4 g5 ⊢
      exact ⟨i, [t], rfl, g1, g4, g5, g2⟩
theorem madeV_may {l : List Term.D} {t : Term.D} (h : GoodL l) (hm : mayB t l.length = true) (hl : l.length < 65536) : (madeV l t).2.2 = 0 := by
  unfold madeV; rw [makeL_may h hm hl]; rfl
theorem partBad_false {l : List Term.D} {v : Value.D} {i : Int} : partBad l v i = false ↔ checkV l v = 0 ∧ ownV l v = false ∧ 0 ≤ i ∧ i ≤ 2 := by
  unfold partBad
  cases h : isV l [false] [v] != 0 with
  | true =>
    have : ¬ isV l [false] [v] = 0 := by simpa using h
    rw [isV_one] at this
    simp only [cond_true]
    exact ⟨fun h => (by cases h), fun h => absurd ⟨h.1, h.2.1⟩ this⟩
  | false =>
    have : isV l [false] [v] = 0 := by simpa using h
    obtain ⟨h1, h2⟩ := isV_one.1 this
    simp only [cond_false, h1, h2]
    cases h3 : decide (i < 0) <;> simp at h3 <;> simp <;> omega
/-- The parts of what may be, and is not sealed, are made. -/
theorem partV_may {l : List Term.D} {v : Value.D} {i : Int} (hl : l.length < 65536) (hc : checkV l v = 0) (ho : ownV l v = false) (h0 : 0 ≤ i) (h2 : i ≤ 2) : (partV l v i).2.2 = 0 := by
  unfold partV
  rw [partBad_false.2 ⟨hc, ho, h0, h2⟩]
  have hG := checkL_iff.1 (checkV_zero.1 hc).1
  cases hv : v.1 with
  | true =>
    obtain ⟨_, s1, s2⟩ := plain_sym hc hv
    simp only [cond_false, cond_true]
    rw [wrap64 (by omega) (by omega)]
    exact madeV_may hG (mayB_part (by omega) s1 s2) hl
  | false =>
    simp only [cond_false]
    unfold partR
    rw [decide_eq_false (by omega), decide_eq_false (by omega)]
    rfl

theorem r93 (a b : Block.D) : run (orc []) noL [] F93 (encA [.v Block, .v Block] (a, b)) [] = some (encV Block (xorB a b)) := by kernel_rfl
def s93 : Sp := .fn [.v Block, .v Block] fun x => (true, encV Block (xorB x.1 x.2))
theorem g93 : GoodS Tryz.prog N93 s93 := by
  refine good (.nil _) H93 rfl (by kernel_rfl) noL [] (noLoops (by kernel_rfl)) [.v Block, .v Block] (by decide) [] _ fun x r hw h => ?_
  cases h
  exact r93 x.1 x.2
def turnU (n k : Int) : Int := IntKind.u64.wrap (BitVec.ofInt 64 (IntKind.u64.wrap (n * 2 ^ min k.toNat 64)) ||| BitVec.ofInt 64 (n.fdiv (2 ^ min (IntKind.i64.wrap (64 - k)).toNat 64))).toNat
theorem r122 (n k : Int) : run (orc []) noL [] F122 (encA [.v U, .v I] (n, k)) [] = bif decide (0 ≤ k) then (bif decide (0 ≤ IntKind.i64.wrap (64 - k)) then some (.one (.int .u64 (turnU n k))) else none) else none := by kernel_rfl
theorem turn_ok (n k : Int) (h0 : 0 ≤ k) (h1 : k ≤ 64) : (bif decide (0 ≤ k) then (bif decide (0 ≤ IntKind.i64.wrap (64 - k)) then some (AV.one (.int .u64 (turnU n k))) else none) else none) = some (.one (.int .u64 (turnU n k))) := by
  have e : decide (0 ≤ IntKind.i64.wrap (64 - k)) = true := by rw [wrap64 (by omega) (by omega)]; exact decide_eq_true (by omega)
  rw [decide_eq_true h0, e]
  rfl
def s122 : Sp := .fn [.v U, .v I] fun x => (decide (0 ≤ x.2) && decide (x.2 ≤ 64), .one (.int .u64 (turnU x.1 x.2)))
theorem g122 : GoodS Tryz.prog N122 s122 := by
  refine good (.nil _) H122 rfl (by kernel_rfl) noL [] (noLoops (by kernel_rfl)) [.v U, .v I] (by decide) [] _ fun x r hw h => ?_
  obtain ⟨n, k⟩ := x
  simp only [Prod.mk.injEq, Bool.and_eq_true, decide_eq_true_eq] at h
  obtain ⟨⟨h0, h1⟩, rfl⟩ := h
  exact (r122 n k).trans (turn_ok n k h0 h1)
theorem turn13 (n : Int) : turnU n 13 = rotU n 13 := by kernel_rfl
theorem turn29 (n : Int) : turnU n 29 = rotU n 29 := by kernel_rfl
def Γ107 : Orc := orc [(N122, s122)]
def roundR (b : Block.D) (k : Int) : Block.D :=
  let a := turnU (IntKind.u64.wrap (IntKind.u64.wrap (b.1 + b.2) + IntKind.u64.wrap (k * 11400714819323198485))) 13
  let c := turnU (xorU b.2 a) 29
  (xorU a c, c)
theorem roundR_eq (b : Block.D) (k : Int) : roundR b k = mixStep k b := by
  unfold roundR mixStep
  simp only [turn13, turn29]
theorem r107 (b : Block.D) (k : Int) : run Γ107 noL [] F107 (encA [.v Block, .v U] (b, k)) [] = some (encV Block (roundR b k)) := by kernel_rfl
def s107 : Sp := .fn [.v Block, .v U] fun x => (true, encV Block (mixStep x.2 x.1))
theorem g107 : GoodS Tryz.prog N107 s107 := by
  refine good (.cons g122 (.nil _)) H107 rfl (by kernel_rfl) noL [] (noLoops (by kernel_rfl)) [.v Block, .v U] (by decide) [] _ fun x r hw h => ?_
  cases h
  rw [← roundR_eq]
  exact r107 x.1 x.2
abbrev live94 : List (Nat × Dir) := [(1, .keep), (2, .keep), (4, .keep)]
def Γ94 : Orc := orc [(N107, s107)]
def vs94 (z x : Block.D) (k : Int) : List AV := [.own [.int .u64 x.1, .int .u64 x.2], .own [.int .u64 z.1, .int .u64 z.2], .one (.int .i64 k)]
def Λ94 : Lam AV := fun cur vs K =>
  match cur, vs with
  | 0, [.own [.int .u64 x, .int .u64 y], .own [.int .u64 e, .int .u64 f], .one (.int .i64 0)] => K (.exit 0) (vs94 (e, f) (mixB (x, y)) 8)
  | _, _ => none
theorem step94 (z x : Block.D) (k : Int) (K : AE → List AV → Option AV) (fuel : Nat) :
    loopN (aexec tb Γ94 Λ94 ⟨13, 0, [(0, live94)]⟩ (loop1 F94).2 0) 13 0 live94 K (fuel + 1) (vs94 z x k) =
    bif decide (k < 8) then loopN (aexec tb Γ94 Λ94 ⟨13, 0, [(0, live94)]⟩ (loop1 F94).2 0) 13 0 live94 K fuel (vs94 z (mixStep (IntKind.u64.wrap k) x) (IntKind.i64.wrap (k + 1)))
    else K (.exit 0) (vs94 z x k) := by kernel_rfl
theorem loop94 : LoopP tb Γ94 Λ94 ⟨13, 0, [(0, live94)]⟩ (loop1 F94) := by
  intro vs K out h
  have hcur : (loop1 F94).1 = 0 := by kernel_rfl
  rw [hcur] at h ⊢
  unfold Λ94 at h
  split at h
  · rename_i x y e f _
    refine upLoop (α := Block.D) (n := 8) (F := fun fuel x i => loopN (aexec tb Γ94 Λ94 ⟨13, 0, [(0, live94)]⟩ (loop1 F94).2 0) 13 0 live94 K fuel (vs94 (e, f) x i))
        (G := fun j x => K (.exit 0) (vs94 (e, f) (mixGo (8 - j) j x) 8)) (fun fuel x => ?_) (fun x j hj => ?_) 8 0 (x, y) out (by omega) h
    · simp only [step94]; rfl
    · left; refine ⟨mixStep j x, fun fuel => ?_, ?_⟩
      · have h8 : decide ((j : Int) < 8) = true := decide_eq_true (by omega)
        simp only [step94, h8, cond_true]
        rw [wrap64 (by omega) (by omega), wrapU (by omega) (by omega)]; rfl
      · rw [show 8 - j = (8 - (j + 1)) + 1 by omega]
        simp only [mixGo]; rfl
  · cases h
theorem r94 (x : Block.D) : run Γ94 Λ94 [(0, live94)] F94 (encA [.v Block] x) [] = some (encV Block (mixB x)) := by kernel_rfl
def s94 : Sp := .fn [.v Block] fun x => (true, encV Block (mixB x))
theorem g94 : GoodS Tryz.prog N94 s94 := by
  refine good (.cons g107 (.nil _)) H94 rfl (by kernel_rfl) Λ94 [(0, live94)] (oneLoop (p0 := loop1 F94) (by kernel_rfl) loop94) [.v Block] (by decide) [] _ fun x r hw h => ?_
  cases h
  exact r94 x
def partBR (b : Block.D) (i : Int) : Block.D := xorB (mixB (xorU b.1 (IntKind.u64.wrap (IntKind.i64.wrap (i + 1))), b.2)) b
def Γ55 : Orc := orc [(N93, s93), (N94, s94)]
theorem r55 (b : Block.D) (i : Int) : run Γ55 noL [] F55 (encA [.v Block, .v I] (b, i)) [] =
    bif bif decide (i < 0) then true else decide (i > 4) then some (.tup [(true, enc Block true (0, 0)), (false, [.int .i64 1])]) else
    some (.tup [(true, enc Block true (partBR b i)), (false, [.int .i64 0])]) := by kernel_rfl
theorem xorU_zero {a : Int} (h0 : 0 ≤ a) (h1 : a ≤ 18446744073709551615) : xorU a 0 = a := by
  unfold xorU
  have e : BitVec.ofInt 64 0 = 0#64 := rfl
  rw [e, BitVec.xor_zero]
  obtain ⟨n, rfl⟩ := Int.eq_ofNat_of_zero_le h0
  rw [BitVec.ofInt_natCast, BitVec.toNat_ofNat, Nat.mod_eq_of_lt (by omega)]
  exact wrapU (by omega) (by omega)
theorem has_u64 {n : Int} (h : IntKind.u64.has n) : 0 ≤ n ∧ n ≤ 18446744073709551615 := by
  obtain ⟨h1, h2⟩ := h
  exact ⟨by simpa [IntKind.min, IntKind.signed] using h1, by simpa [IntKind.max, IntKind.signed, IntKind.bits] using h2⟩
theorem partBR_eq {b : Block.D} (h : WF Block b) (i : Int) : partBR b i = partB b i := by
  unfold partBR partB
  have h2 := has_u64 h.2
  have e : xorB b (IntKind.u64.wrap (IntKind.i64.wrap (i + 1)), 0) = (xorU b.1 (IntKind.u64.wrap (IntKind.i64.wrap (i + 1))), b.2) := by
    unfold xorB
    rw [xorU_zero h2.1 h2.2]
  rw [e]
theorem g55 : GoodS Tryz.prog N55 s53 := by
  refine good (.cons g93 (.cons g94 (.nil _))) H55 rfl (by kernel_rfl) noL [] (noLoops (by kernel_rfl)) [.v Block, .v I] (by decide) [] _ fun x r hw h => ?_
  cases h
  refine (r55 x.1 x.2).trans ?_
  rw [partBR_eq hw.1]
  unfold partR
  cases bif decide (x.2 < 0) then true else decide (x.2 > 4) <;> rfl
@[reducible] def V1 : List AK := [.v (.sl Term), .v Value]
def mayV (l : List Term.D) (v : Value.D) : Bool := bif v.1 then (bif bif valEq v (symV v.2.2.2.2) then decide (v.2.2.2.2 ≥ 0) else false then decide (v.2.2.2.2 < (l.length : Int)) else false) else
  bif v.2.1 then valEq v (sealV v.2.2.2.1) else valEq v (octV v.2.2.1)
theorem r59 (l : List Term.D) (v : Value.D) : run (orc []) noL [] F59 (encA V1 (l, v)) [] =
    bif v.1 then ob (bif bif valEq v (symV v.2.2.2.2) then decide (v.2.2.2.2 ≥ 0) else false then decide (v.2.2.2.2 < (l.length : Int)) else false) else
    bif v.2.1 then ob (valEq v (sealV v.2.2.2.1)) else ob (valEq v (octV v.2.2.1)) := by kernel_rfl
def s59 : Sp := .fn V1 fun x => (true, .one (.bool (mayV x.1 x.2)))
theorem g59 : GoodS Tryz.prog N59 s59 := by
  refine good (.nil _) H59 rfl (by kernel_rfl) noL [] (noLoops (by kernel_rfl)) V1 (by decide) [] _ fun x r _ h => ?_
  obtain ⟨l, v⟩ := x
  cases h
  refine (r59 l v).trans ?_
  show _ = ob (mayV l v)
  unfold mayV
  cases v.1 <;> cases v.2.1 <;> rfl
def Γ27 : Orc := orc [(N51, s51), (N59, s59)]
def checkVR (l : List Term.D) (v : Value.D) : Int := bif bif checkR l != 0 then true else !mayV l v then 1 else 0
theorem r27 (l : List Term.D) (v : Value.D) : run Γ27 noL [] F27 (encA V1 (l, v)) [] = bif bif checkR l != 0 then true else !mayV l v then some (.one (.int .i64 1)) else some (.one (.int .i64 0)) := by kernel_rfl
def s27 : Sp := .fn V1 fun x => (true, .one (.int .i64 (checkVR x.1 x.2)))
theorem g27 : GoodS Tryz.prog N27 s27 := by
  refine good (.cons g51 (.cons g59 (.nil _))) H27 rfl (by kernel_rfl) noL [] (noLoops (by kernel_rfl)) V1 (by decide) [] _ fun x r _ h => ?_
  obtain ⟨l, v⟩ := x
  cases h
  refine (r27 l v).trans ?_
  simp only [checkVR]
  cases bif checkR l != 0 then true else !mayV l v <;> rfl
def shutG (l : List Term.D) (v : Value.D) : Bool := bif v.1 then inB v.2.2.2.2 l.length else true
theorem r54 (l : List Term.D) (v : Value.D) : run (orc []) noL [] F54 (encA V1 (l, v)) [] =
    bif v.1 then (bif inB v.2.2.2.2 l.length then ob ((tAt l v.2.2.2.2).1 == 5) else none) else ob v.2.1 := by kernel_rfl
def s54 : Sp := .fn V1 fun x => (shutG x.1 x.2, .one (.bool (ownV x.1 x.2)))
theorem g54 : GoodS Tryz.prog N54 s54 := by
  refine good (.nil _) H54 rfl (by kernel_rfl) noL [] (noLoops (by kernel_rfl)) V1 (by decide) [] _ fun x r _ h => ?_
  obtain ⟨l, v⟩ := x
  simp only [Prod.mk.injEq] at h
  obtain ⟨h1, rfl⟩ := h
  refine (r54 l v).trans ?_
  show _ = ob (ownV l v)
  unfold shutG at h1
  unfold ownV
  cases hv : v.1 with
  | true => rw [hv] at h1; simp only [cond_true] at h1; rw [h1]; rfl
  | false => rfl
theorem r52 (l : List Term.D) : run (orc []) noL [] F52 (encA [.v (.sl Term)] l) [.arr Term] = bif small24 l.length then some (.arr true Term l) else none := by kernel_rfl
def s52 : Sp := .fn [.v (.sl Term)] fun l => (small24 l.length, .arr true Term l)
theorem g52 : GoodS Tryz.prog N52 s52 := by
  refine good (.nil _) H52 rfl (by kernel_rfl) noL [] (noLoops (by kernel_rfl)) [.v (.sl Term)] (by decide) [.arr Term] _ fun l r _ h => ?_
  simp only [Prod.mk.injEq] at h
  obtain ⟨h1, rfl⟩ := h
  refine (r52 l).trans ?_
  rw [h1]; rfl
def Γ50 : Orc := orc [(N89, s89)]
def madeR (l : List Term.D) (t : Term.D) : Value.D × List Term.D × Int := bif (makeR l t).2.2 != 0 then (zeroV, [], (makeR l t).2.2) else (symV (makeR l t).1, (makeR l t).2.1, 0)
theorem r50 (l : List Term.D) (t : Term.D) : run Γ50 noL [] F50 (encA [.v (.sl Term), .v Term] (l, t)) wVle =
    bif (makeR l t).2.2 != 0 then some (vle (zeroV, [], (makeR l t).2.2)) else some (vle (symV (makeR l t).1, (makeR l t).2.1, 0)) := by kernel_rfl
def s50 : Sp := .fn [.v (.sl Term), .v Term] fun x => (true, vle (madeR x.1 x.2))
theorem g50 : GoodS Tryz.prog N50 s50 := by
  refine good (.cons g89 (.nil _)) H50 rfl (by kernel_rfl) noL [] (noLoops (by kernel_rfl)) [.v (.sl Term), .v Term] (by decide) wVle _ fun x r hw h => ?_
  cases h
  refine (r50 x.1 x.2).trans ?_
  simp only [madeR]
  cases (makeR x.1 x.2).2.2 != 0 <;> rfl
def Γ23 : Orc := orc [(N27, s27), (N50, s50), (N52, s52), (N54, s54), (N55, s53)]
theorem checkVR_zero {l : List Term.D} {v : Value.D} : checkVR l v = 0 ↔ checkR l = 0 ∧ mayV l v = true := by
  unfold checkVR
  cases h1 : checkR l != 0 with
  | true => have : checkR l ≠ 0 := by simpa using h1
            simp [this]
  | false => have : checkR l = 0 := by simpa using h1
             cases h2 : mayV l v <;> simp [this]
theorem shut_ok {l : List Term.D} {v : Value.D} (h : mayV l v = true) : shutG l v = true := by
  unfold mayV at h
  unfold shutG
  cases hv : v.1 with
  | false => rfl
  | true =>
    rw [hv] at h
    simp only [cond_true] at h ⊢
    cases h1 : valEq v (symV v.2.2.2.2) with
    | false => rw [h1] at h; cases h
    | true =>
      rw [h1] at h
      cases h2 : decide (v.2.2.2.2 ≥ 0) with
      | false => rw [h2] at h; cases h
      | true =>
        rw [h2] at h
        unfold inB
        simp only [cond_true] at h
        rw [h, Bool.and_true]
        exact h2
theorem guard_ok {g b : Bool} (h : b = false → g = true) : (g || !boolBeq b false) = true := by
  cases b with
  | true => cases g <;> rfl
  | false => rw [h rfl]; rfl
def partRBad (l : List Term.D) (v : Value.D) (i : Int) : Bool := bif bif bif checkVR l v != 0 then true else ownV l v then true else decide (i < 0) then true else decide (i > 2)
def partVR (l : List Term.D) (v : Value.D) (i : Int) : Value.D × List Term.D × Int :=
  bif partRBad l v i then (zeroV, [], 1) else bif v.1 then madeR l (IntKind.i64.wrap (2 + i), v.2.2.2.2, 0) else (octV (partR v.2.2.1 i).1, l, 0)
theorem r23 (l : List Term.D) (v : Value.D) (i : Int) : run Γ23 noL [] F23 (encA P3 (l, v, i)) wVle =
    bif shutG l v || !boolBeq (checkVR l v != 0) false then
      bif partRBad l v i then some (vle (zeroV, [], 1)) else bif v.1 then some (vle (madeR l (IntKind.i64.wrap (2 + i), v.2.2.2.2, 0))) else bif small24 l.length then some (vle (octV (partR v.2.2.1 i).1, l, 0)) else none
    else none := by kernel_rfl
def s23 : Sp := .fn P3 fun x => (true, vle (partVR x.1 x.2.1 x.2.2))
theorem g23 : GoodS Tryz.prog N23 s23 := by
  refine good (.cons g27 (.cons g50 (.cons g52 (.cons g54 (.cons g55 (.nil _)))))) H23 rfl (by kernel_rfl) noL [] (noLoops (by kernel_rfl)) P3 (by decide) wVle _ fun x r hw h => ?_
  obtain ⟨l, v, i⟩ := x
  cases h
  refine (r23 l v i).trans ?_
  rw [guard_ok (fun h => shut_ok (checkVR_zero.1 (by simpa using h)).2), cond_true]
  simp only [partVR]
  cases h0 : partRBad l v i with
  | true => rfl
  | false =>
    cases v.1 with
    | true => rfl
    | false =>
      unfold partRBad at h0
      cases h1 : checkVR l v != 0 with
      | true => rw [h1] at h0; cases h0
      | false =>
        have hz : checkVR l v = 0 := by simpa using h1
        rw [small_of (checkR_len (checkVR_zero.1 hz).1)]; rfl

theorem madeR_eq (l : List Term.D) (t : Term.D) : madeR l t = madeV l t := by
  unfold madeR madeV; rw [makeR_eq]
theorem mayV_eq (l : List Term.D) (v : Value.D) : mayV l v = valEq v (plainV l v) := by
  apply bool_iff
  rw [valEq_iff]
  unfold plainV isSym mayV
  obtain ⟨s, z, b, x, i⟩ := v
  cases s with
  | true =>
    simp only [cond_true]
    cases h1 : decide (i ≥ 0) <;> cases h2 : decide (i < (l.length : Int)) <;> simp only [cond_true, cond_false] <;> rw [cond_iff] <;> simp only [cond_iff, valEq_iff]
    all_goals
      first
      | (cases z <;> simp [sealV, octV, symV])
      | simp [symV]
  | false =>
    simp only [cond_false]
    cases z <;> simp only [cond_true, cond_false, valEq_iff]
theorem checkVR_eq (l : List Term.D) (v : Value.D) : checkVR l v = checkV l v := by
  unfold checkVR checkV
  rw [checkR_eq, mayV_eq]
  rcases checkL_cases l with ⟨h1, _⟩ | ⟨h1, _⟩ <;> rw [h1] <;> cases valEq v (plainV l v) <;> rfl
theorem partRBad_eq (l : List Term.D) (v : Value.D) (i : Int) : partRBad l v i = partBad l v i := by
  have h := isV_one (l := l) (a := false) (v := v)
  unfold partRBad partBad
  rw [checkVR_eq]
  by_cases h1 : isV l [false] [v] = 0
  · obtain ⟨g1, g2⟩ := h.1 h1
    rw [h1, g1, g2]; rfl
  · have e : (isV l [false] [v] != 0) = true := by simpa using h1
    rw [e]
    cases hc : checkV l v != 0 with
    | true => rfl
    | false =>
      cases ho : ownV l v with
      | true => rfl
      | false => exact absurd (h.2 ⟨by simpa using hc, ho⟩) h1
theorem partVR_eq (l : List Term.D) (v : Value.D) (i : Int) : partVR l v i = partV l v i := by
  unfold partVR partV
  rw [partRBad_eq, madeR_eq]
  cases h : partBad l v i with
  | true => rfl
  | false =>
    obtain ⟨_, _, h0, h2⟩ := partBad_false.1 h
    have : (partR v.2.2.1 i).2 = 0 := by
      unfold partR
      rw [decide_eq_false (Int.not_lt.2 h0), decide_eq_false (show ¬ i > 4 from Int.not_lt.2 (Int.le_trans h2 (by decide)))]; rfl
    rw [this]
abbrev wRow : List WK := [.id, .arr Term, .id]
def rowR (i : Int) (e : Int) : AV := .tup [(false, [.int .i64 i]), (false, [.hot 0 none]), (false, [.int .i64 e])]
abbrev lt (l : List Term.D) (t : Term.D) : List AV := encA [.v (.sl Term), .v Term] (l, t)
theorem r84io (l : List Term.D) (t : Term.D) : runIO Γ84 noL2 0 [] F84 (lt l t) [] 0 wRow =
    bif (findL l t).2 == 0 then (bif small24 l.length then some (rowR (findL l t).1 0, [.arr true Term l]) else none) else
    bif (findL l t).2 != 4 then some (rowR 0 (findL l t).2, [.arr true Term []]) else
    bif (l.length : Int) == 65536 then some (rowR 0 6, [.arr true Term []]) else
    bif small24 l.length then (bif decide ((l.length + [t].length) * 24 ≤ 140737488355328) then some (rowR l.length 0, [.arr true Term (l ++ [t])]) else none) else none := by kernel_rfl
def s84io : Sp := .io fun a p gs => match a, p, gs with
  | [.one (.sl false (.pair (.int .i64) (.pair (.int .i64) (.int .i64))) none l), .agg [.int .i64 x, .int .i64 y, .int .i64 z]], 0, [] =>
    some (true, rowR (makeL l (x, y, z)).1 (makeL l (x, y, z)).2.2, [.arr true Term (makeL l (x, y, z)).2.1])
  | _, _, _ => none
theorem make_run (l : List Term.D) (t : Term.D) : runIO Γ84 noL2 0 [] F84 (lt l t) [] 0 wRow = some (rowR (makeL l t).1 (makeL l t).2.2, [.arr true Term (makeL l t).2.1]) := by
  rw [r84io]
  simp only [makeL]
  cases h0 : (findL l t).2 == 0 with
  | true =>
    rw [small_of (ixL_len (findL_ok (.inl (eq_of_beq h0))))]; rfl
  | false =>
    cases h4 : (findL l t).2 != 4 with
    | true => rfl
    | false =>
      have hl := ixL_len (findL_ok (.inr (by simpa using h4)))
      cases (l.length : Int) == 65536 with
      | true => rfl
      | false =>
        have : decide ((l.length + [t].length) * 24 ≤ 140737488355328) = true := decide_eq_true (by simp; omega)
        rw [small_of hl, this]; rfl
theorem g84io : GoodS Tryz.prog N84 s84io := by
  refine GoodS.io (callable_of H84 (bd rfl) (by kernel_rfl)) fun a p gs r gs' hw1 hw2 h => ?_
  clear hw1 hw2
  split at h
  · rename_i l x y z
    cases h
    exact goodIO0 (.cons g47 (.cons g103 (.nil _))) H84 rfl noL2 0 [] (noLoops2 (by kernel_rfl)) (lt l (x, y, z)) rfl (by show 2 ≤ _; decide) wRow (make_run l (x, y, z))
  · cases h
def rowV (v : Value.D) (e : Int) : AV := .tup [(true, enc Value true v), (false, [.hot 0 none]), (false, [.int .i64 e])]
def Γ45io : Orc := orc [(N84, s84io)]
theorem r45io (l : List Term.D) (t : Term.D) : runIO Γ45io noL2 0 [] F45 (lt l t) [] 0 wRow =
    bif (makeL l t).2.2 != 0 then some (rowV zeroV (makeL l t).2.2, [.arr true Term []]) else some (rowV (symV (makeL l t).1) 0, [.arr true Term (makeL l t).2.1]) := by kernel_rfl
def s45io : Sp := .io fun a p gs => match a, p, gs with
  | [.one (.sl false (.pair (.int .i64) (.pair (.int .i64) (.int .i64))) none l), .agg [.int .i64 x, .int .i64 y, .int .i64 z]], 0, [] =>
    some (true, rowV (madeV l (x, y, z)).1 (madeV l (x, y, z)).2.2, [.arr true Term (madeV l (x, y, z)).2.1])
  | _, _, _ => none
theorem g45io : GoodS Tryz.prog N45 s45io := by
  refine GoodS.io (callable_of H45 (bd rfl) (by kernel_rfl)) fun a p gs r gs' hw1 hw2 h => ?_
  clear hw1 hw2
  split at h
  · rename_i l x y z
    cases h
    refine goodIO0 (.cons g84io (.nil _)) H45 rfl noL2 0 [] (noLoops2 (by kernel_rfl)) (lt l (x, y, z)) rfl (by show 2 ≤ _; decide) wRow ((r45io l (x, y, z)).trans ?_)
    simp only [madeV]
    cases (makeL l (x, y, z)).2.2 != 0 <;> rfl
  · cases h
theorem g23v : GoodS Tryz.prog N23 s22 := by
  have e : s23 = s22 := by
    unfold s23 s22
    congr 1
    funext x
    rw [partVR_eq]
  rw [← e]; exact g23
theorem g27v : GoodS Tryz.prog N27 s19 := by
  have e : s27 = s19 := by
    unfold s27 s19
    congr 1
    funext x
    rw [checkVR_eq]
  rw [← e]; exact g27

theorem same_self2 (x : AV × List AV) : Same.eq x x = true := @decide_eq_true _ (Classical.propDecidable _) rfl
theorem sameO_rep2 (x : AV × List AV) : ∀ (n : Nat), sameO x (List.replicate n (some x)) = true
  | 0 => rfl
  | n + 1 => by
    show (Same.eq x x && sameO x (List.replicate n (some x))) = true
    rw [same_self2, sameO_rep2 x n]; rfl
theorem allSame_rep2 (x : AV × List AV) (n : Nat) : allSame (List.replicate (n + 1) (some x)) = some x := by
  show (bif sameO x (List.replicate n (some x)) then some x else none) = some x
  rw [sameO_rep2]; rfl
/-- A walker: its value, its terms, its error. -/
abbrev WS := Value.D × List Term.D × Int
def wk (x : WS) : AV := .own (.sl false Term none x.2.1 :: (enc Value true x.1 ++ [.int .i64 x.2.2]))
/-- One that is all new. -/
def wkT (x : WS) : AV := .own (.sl true Term none x.2.1 :: (enc Value true x.1 ++ [.int .i64 x.2.2]))
def unit2 (x : WS) : Option (AV × List AV) := some (.tup [], [wk x])
def stepW (x : WS) (i : Int) : WS := bif x.2.2 == 0 then partV x.2.1 x.1 i else x
/-- value.Part, whose row nobody writes. -/
def vlf (x : WS) : AV := .tup [(true, enc Value true x.1), (false, [.sl false Term none x.2.1]), (false, [.int .i64 x.2.2])]
abbrev wVlf : List WK := [.id, .sl false Term, .id]
theorem r22f (l : List Term.D) (v : Value.D) (i : Int) : run Γ22 noL [] F22 (encA P3 (l, v, i)) wVlf =
    bif partBad l v i then some (vlf (zeroV, [], 1)) else
    bif v.1 then some (vlf (madeV l (IntKind.i64.wrap (2 + i), v.2.2.2.2, 0))) else bif small24 l.length then some (vlf (octV (partR v.2.2.1 i).1, l, (partR v.2.2.1 i).2)) else none := by kernel_rfl
def s22f : Sp := .fn P3 fun x => (true, vlf (partV x.1 x.2.1 x.2.2))
theorem g22f : GoodS Tryz.prog N22 s22f := by
  refine good (.cons g44 (.cons g45 (.cons g47 (.cons g53 (.nil _))))) H22 rfl (by kernel_rfl) noL [] (noLoops (by kernel_rfl)) P3 (by decide) wVlf _ fun x r hw h => ?_
  obtain ⟨l, v, i⟩ := x
  cases h
  refine (r22f l v i).trans ?_
  simp only [partV]
  cases h0 : partBad l v i with
  | true => rfl
  | false =>
    cases v.1 with
    | true => rfl
    | false =>
      unfold partBad at h0
      cases h1 : isV l [false] [v] != 0 with
      | true => rw [h1] at h0; cases h0
      | false =>
        have hz : isV l [false] [v] = 0 := by simpa using h1
        rw [small_of (checkL_small (checkV_zero.1 (isV_one.1 hz).1).1)]; rfl
theorem r353 (l : List Term.D) (v : Value.D) (e i : Int) : runIO (orc [(N22, s22f)]) noL2 1 [] F353 [.one (.ptr 32 0), .one (.int .i64 i)] [wk (v, l, e)] 1 [] =
    bif e == 0 then unit2 (partV l v i) else unit2 (v, l, e) := by kernel_rfl
theorem r354 (l : List Term.D) (v : Value.D) (e : Int) : runIO (orc []) noL2 1 [] F354 [.one (.ptr 23 0)] [wk (v, l, e)] 1 [.id, .sl false Term, .id] =
    bif e != 0 then allSame (List.replicate 20 (some (vlf (zeroV, [], e), [wk (v, l, e)]))) else allSame (List.replicate 35 (some (vlf (v, l, 0), [wk (v, l, e)]))) := by kernel_rfl
def gd51 (l : List Term.D) (v : Value.D) : Bool := inB v.2.2.2.2 l.length || !((boolBeq (checkV l v == 0) true && boolBeq v.2.1 false) && boolBeq v.1 true)
def b51 (l : List Term.D) (v : Value.D) : Bool := bif checkV l v == 0 then bif v.2.1 then true else bif v.1 then (tAt l v.2.2.2.2).1 == 5 else false else false
/-- Clone, whose row nobody writes; it is new. -/
theorem r47nf (xs : List Term.D) : run (orc []) noL [] F47 [.one (.sl false Term (some true) xs)] [.sl true Term] = some (.one (.sl true Term none [])) := by kernel_rfl
theorem r47f (xs : List Term.D) : run (orc []) noL [] F47 [.one (.sl false Term (some false) xs)] [.sl true Term] =
    bif decide ((([] : List Term.D).length + xs.length) * 24 ≤ 140737488355328) then some (.one (.sl true Term none ([] ++ xs))) else none := by kernel_rfl
def s47f : Sp := .fn [.v (.sl Term)] fun xs => (small24 xs.length, .one (.sl true Term none xs))
theorem g47f : GoodS Tryz.prog N47 s47f := by
  refine .fn (callable_of H47 (bd rfl) (by kernel_rfl)) fun xs r hw h => ?_
  have hs : small24 xs.length = true := congrArg Prod.fst h
  obtain rfl : AV.one (.sl true Term none xs) = r := congrArg Prod.snd h
  refine good_nl (fun hx => ?_) ?_
  · subst hx
    exact ks47 [.sl true Term] _ (by show 1 ≤ _; decide) (r47nf [])
  · refine ks47 [.sl true Term] _ (by show 1 ≤ _; decide) ?_
    rw [r47f]
    have : decide ((([] : List Term.D).length + xs.length) * 24 ≤ 140737488355328) = true := by
      have := of_decide_eq_true hs
      exact decide_eq_true (by simpa using this)
    rw [this]; rfl
theorem r351 (l : List Term.D) (v : Value.D) : runIO (orc [(N19, s19), (N47, s47f)]) noL2 0 [] F351 (encA [.v (.sl Term), .v Value] (l, v)) [] 0 [] =
    bif gd51 l v then bif b51 l v then bif small24 l.length then some (.one (.ptr 0 0), [wkT (v, l, 1)]) else none else bif small24 l.length then some (.one (.ptr 0 0), [wkT (v, l, checkV l v)]) else none else none := by kernel_rfl
def unW : AV → Option WS
  | .own [.sl false (.pair (.int .i64) (.pair (.int .i64) (.int .i64))) none l, .bool a, .bool b, .int .u64 c, .int .u64 d, .int .u64 e, .int .u64 f, .int .u64 g, .int .u64 h, .int .i64 t, .int .i64 er] => some ((a, b, (c, d), ((e, f), (g, h)), t), l, er)
  | _ => none
theorem unW_eq {a : AV} {x : WS} (h : unW a = some x) : a = wk x := by
  unfold unW at h
  split at h
  · cases h; rfl
  · cases h
def unWT : AV → Option WS
  | .own [.sl true (.pair (.int .i64) (.pair (.int .i64) (.int .i64))) none l, .bool a, .bool b, .int .u64 c, .int .u64 d, .int .u64 e, .int .u64 f, .int .u64 g, .int .u64 h, .int .i64 t, .int .i64 er] => some ((a, b, (c, d), ((e, f), (g, h)), t), l, er)
  | _ => none
theorem unWT_eq {a : AV} {x : WS} (h : unWT a = some x) : a = wkT x := by
  unfold unWT at h
  split at h
  · cases h; rfl
  · cases h
def unV : AV → Option Value.D
  | .agg [.bool a, .bool b, .int .u64 c, .int .u64 d, .int .u64 e, .int .u64 f, .int .u64 g, .int .u64 h, .int .i64 t] => some (a, b, (c, d), ((e, f), (g, h)), t)
  | _ => none
theorem unV_eq {a : AV} {v : Value.D} (h : unV a = some v) : a = encV Value v := by
  unfold unV at h
  split at h
  · cases h; rfl
  · cases h
def s353 : Sp := .io fun a p gs => match a, p, gs with
  | [.one (.ptr 0 0), .one (.int .i64 i)], 1, [g] => (match unW g with
    | some x => some (true, .tup [], [wk (stepW x i)])
    | none => none)
  | _, _, _ => none
theorem g353 : GoodS Tryz.prog N353 s353 := by
  refine GoodS.io (callable_of H353 (bd rfl) (by kernel_rfl)) fun a p gs r gs' hw1 hw2 h => ?_
  clear hw1 hw2
  split at h
  · rename_i i g
    split at h
    · rename_i x hx
      obtain rfl := unW_eq hx
      cases h
      obtain ⟨v, l, e⟩ := x
      refine goodIO1 (.cons g22f (.nil _)) H353 rfl noL2 1 [] (noLoops2 (by kernel_rfl)) [.one (.ptr 0 0), .one (.int .i64 i)] [wk (v, l, e)] 1 (ys := [.one (.ptr 32 0), .one (.int .i64 i)]) (hs := [wk (v, l, e)]) rfl rfl rfl (Nat.le_refl 1) (by show 2 ≤ _; decide) (Nat.le_refl 1) [] ((r353 l v e i).trans ?_)
      unfold stepW
      cases h0 : e == 0 with
      | true => simp only [h0]; rfl
      | false => simp only [h0]; rfl
    · cases h
  · cases h
def endW (x : WS) : WS := bif x.2.2 != 0 then (zeroV, [], x.2.2) else (x.1, x.2.1, 0)
def s354 : Sp := .io fun a p gs => match a, p, gs with
  | [.one (.ptr 0 0)], 1, [g] => (match unW g with
    | some x => some (true, vlf (endW x), [wk x])
    | none => none)
  | _, _, _ => none
theorem g354 : GoodS Tryz.prog N354 s354 := by
  refine GoodS.io (callable_of H354 (bd rfl) (by kernel_rfl)) fun a p gs r gs' hw1 hw2 h => ?_
  clear hw1 hw2
  split at h
  · rename_i g
    split at h
    · rename_i x hx
      obtain rfl := unW_eq hx
      cases h
      obtain ⟨v, l, e⟩ := x
      refine goodIO1 (.nil _) H354 rfl noL2 1 [] (noLoops2 (by kernel_rfl)) [.one (.ptr 0 0)] [wk (v, l, e)] 1 (ys := [.one (.ptr 23 0)]) (hs := [wk (v, l, e)]) rfl rfl rfl (Nat.le_refl 1) (by show 1 ≤ _; decide) (Nat.le_refl 1) [.id, .sl false Term, .id] ((r354 l v e).trans ?_)
      unfold endW
      cases h0 : e != 0 with
      | true => simp only [h0]; exact allSame_rep2 _ 19
      | false => simp only [h0]; exact allSame_rep2 _ 34
    · cases h
  · cases h
def startE (l : List Term.D) (v : Value.D) : Int := bif b51 l v then 1 else checkV l v
def startW (l : List Term.D) (v : Value.D) : WS := (v, l, startE l v)
def s351 : Sp := .io fun a p gs => match a, p, gs with
  | [.one (.sl false (.pair (.int .i64) (.pair (.int .i64) (.int .i64))) none l), g], 0, [] => (match unV g with
    | some v => some (small24 l.length, .one (.ptr 0 0), [wkT (startW l v)])
    | none => none)
  | _, _, _ => none
theorem sym_in {l : List Term.D} {v : Value.D} (h : checkV l v = 0) (hv : v.1 = true) : inB v.2.2.2.2 l.length = true := by
  have hs : isSym l v = true := by
    have h1 := (checkV_zero.1 h).2
    cases hs : isSym l v with
    | true => rfl
    | false =>
      have : (plainV l v).1 = false := by unfold plainV; rw [hs]; cases v.2.1 <;> rfl
      rw [← h1, hv] at this; cases this
  unfold isSym at hs
  rw [hv] at hs
  simp only [cond_true] at hs
  unfold inB
  cases h2 : decide (v.2.2.2.2 ≥ 0) with
  | false => rw [h2] at hs; cases hs
  | true => rw [h2] at hs; rw [show decide (v.2.2.2.2 < (l.length : Int)) = true from hs]; rfl
theorem gd51_true (l : List Term.D) (v : Value.D) : gd51 l v = true := by
  unfold gd51
  cases h1 : checkV l v == 0 with
  | false => cases inB v.2.2.2.2 l.length <;> rfl
  | true =>
    cases h2 : v.1 with
    | false => cases inB v.2.2.2.2 l.length <;> cases v.2.1 <;> rfl
    | true => rw [sym_in (eq_of_beq h1) h2]; rfl
theorem g351 : GoodS Tryz.prog N351 s351 := by
  refine GoodS.io (callable_of H351 (bd rfl) (by kernel_rfl)) fun a p gs r gs' hw1 hw2 h => ?_
  clear hw1 hw2
  split at h
  · rename_i l g
    split at h
    · rename_i v hv
      obtain rfl := unV_eq hv
      simp only [Option.some.injEq, Prod.mk.injEq] at h
      obtain ⟨hs, rfl, rfl⟩ := h
      refine goodIO0 (.cons g19 (.cons g47f (.nil _))) H351 rfl noL2 0 [] (noLoops2 (by kernel_rfl)) (encA [.v (.sl Term), .v Value] (l, v)) rfl (by show 2 ≤ _; decide) [] ((r351 l v).trans ?_)
      rw [gd51_true, hs]
      unfold startW startE
      cases b51 l v <;> rfl
    · cases h
  · cases h
/-- Loops that count up, whatever they come to. -/
theorem upLoopR {ρ α : Type} {n : Nat} {F : Nat → α → Int → Option ρ} {G : Nat → α → Option ρ} (h1 : ∀ fuel a, F (fuel + 1) a n = G n a)
    (h2 : ∀ a (j : Nat), j < n → (∃ a', (∀ fuel, F (fuel + 1) a j = F fuel a' ((j + 1 : Nat) : Int)) ∧ G j a = G (j + 1) a') ∨ (∀ fuel, F (fuel + 1) a j = G j a)) :
    ∀ (m j : Nat) (a : α) (out : ρ), j + m = n → G j a = some out → ∃ fuel, F fuel a j = some out := by
  intro m
  induction m with
  | zero =>
    intro j a out hj h
    obtain rfl : j = n := by omega
    exact ⟨1, (h1 0 a).trans h⟩
  | succ m ih =>
    intro j a out hj h
    rcases h2 a j (by omega) with ⟨a', g1, g2⟩ | g
    · obtain ⟨fuel, hf⟩ := ih (j + 1) a' out (by omega) (g2 ▸ h)
      exact ⟨fuel + 1, (g1 fuel).trans hf⟩
    · exact ⟨1, (g 0).trans h⟩
def walkL : WS → List Int → WS
  | x, [] => x
  | x, s :: r => walkL (stepW x s) r
theorem walk_drop {x : WS} {l : List Int} {j : Nat} (h : j < l.length) : walkL x (l.drop j) = walkL (stepW x (iAt l j)) (l.drop (j + 1)) := by
  rw [List.drop_eq_getElem_cons h]
  simp [iAt, h, walkL]
def lenB (l : List Int) : Bool := decide ((l.length : Int) = l.length) && decide ((l.length : Int) ≤ 9223372036854775807)
theorem oneLoop2 {Γ : Orc} {Λ : Lam (AV × List AV)} {ms : Lay} {c : Code} {p0 : Nat × Code} (h : loopsOf 0 c = [p0]) (h0 : LoopP tb Γ Λ ms p0) : ∀ p ∈ loopsOf 0 c, LoopP tb Γ Λ ms p := by
  rw [h]; intro p hp; rw [List.mem_singleton.1 hp]; exact h0
def oddB (s : Int) : Bool := IntKind.i64.wrap (BitVec.ofInt 64 s &&& ~~~(BitVec.ofInt 64 1)).toNat != 0
theorem r377 (s : Int) : run (orc []) noL [] F377 (encA [.v I] s) [] = some (.one (.bool (oddB s))) := by kernel_rfl
def s377 : Sp := .fn [.v I] fun s => (true, .one (.bool (oddB s)))
theorem g377 : GoodS Tryz.prog N377 s377 := by
  refine good (.nil _) H377 rfl (by kernel_rfl) noL [] (noLoops (by kernel_rfl)) [.v I] (by decide) [] _ fun s r hw e => ?_
  cases e
  exact r377 s
def clO : AV := .one (.fn N377 [])
def isO (c : AV) : Bool :=
  match c with
  | .one (.fn f []) => Nat.beq f N377
  | _ => false
theorem isO_eq {c : AV} (h : isO c = true) : c = clO := by
  unfold isO at h
  split at h
  · obtain rfl := Nat.eq_of_beq_eq_true h; rfl
  · cases h
abbrev liveO : List (Nat × Dir) := [(0, .keep), (1, .keep), (4, .keep), (7, .keep), (8, .keep)]
def vsO (l : List Int) (c : AV) (r n i : Int) : List AV := [.one (.sl false I none l), c, .one (.int .i64 r), .one (.int .i64 n), .one (.int .i64 i)]
def ΓO : Orc := orc [(N377, s377)]
noncomputable abbrev lpO (Λ : Lam AV) (K : AE → List AV → Option AV) (fuel : Nat) (vs : List AV) : Option AV := loopN (aexec tb ΓO Λ ⟨19, 0, [(0, liveO)]⟩ (loopK F101 0).2 0) 19 0 liveO K fuel vs
theorem stepO (l : List Int) (r n i : Int) (Λ : Lam AV) (fuel : Nat) (K : AE → List AV → Option AV) : lpO Λ K (fuel + 1) (vsO l clO r n i) =
    bif decide (i < n) then bif inB i l.length then bif oddB (iAt l i) then K .ret (vsO l clO i n i) else lpO Λ K fuel (vsO l clO r n (IntKind.i64.wrap (i + 1))) else none else K (.exit 0) (vsO l clO r n i) := by kernel_rfl
def ΛO : Lam AV := fun cur vs K =>
  match cur, vs with
  | 0, [.one (.sl false (.int .i64) none l), c, .one (.int .i64 r), .one (.int .i64 n), .one (.int .i64 0)] =>
    bif isO c && decide (n = l.length) && decide (n ≤ 9223372036854775807) then
      bif decide (idxFrom oddB l 0 < 0) then K (.exit 0) (vsO l c r n n) else K .ret (vsO l c (idxFrom oddB l 0) n (idxFrom oddB l 0))
    else none
  | _, _ => none
theorem iAt_cons {l : List Int} {j : Nat} (h : j < l.length) : l.drop j = iAt l j :: l.drop (j + 1) := by
  rw [List.drop_eq_getElem_cons h]
  simp [iAt, h]
theorem loopO : LoopP tb ΓO ΛO ⟨19, 0, [(0, liveO)]⟩ (loopK F101 0) := by
  intro vs K out e
  have hcur : (loopK F101 0).1 = 0 := by kernel_rfl
  rw [hcur] at e ⊢
  unfold ΛO at e
  split at e
  · rename_i l c r n _
    cases hc : (isO c && decide (n = l.length) && decide (n ≤ 9223372036854775807)) with
    | false => rw [hc] at e; cases e
    | true =>
      rw [hc] at e
      simp only [cond_true] at e
      simp only [Bool.and_eq_true, decide_eq_true_eq] at hc
      obtain ⟨⟨hc, rfl⟩, hmax⟩ := hc
      obtain rfl := isO_eq hc
      refine upLoop (α := Unit) (n := l.length) (F := fun fuel _ i => lpO ΛO K fuel (vsO l clO r l.length i))
        (G := fun j _ => bif decide (idxFrom oddB (l.drop j) j < 0) then K (.exit 0) (vsO l clO r l.length l.length) else K .ret (vsO l clO (idxFrom oddB (l.drop j) j) l.length (idxFrom oddB (l.drop j) j)))
        (fun fuel _ => ?_) (fun _ j hj => ?_) l.length 0 () out (by omega) e
      · simp only [stepO, nlt_dec, cond_false, List.drop_length, idxFrom]; rfl
      · cases hx : oddB (iAt l j) with
        | true =>
          right; intro fuel
          have h0 : decide ((j : Int) < 0) = false := by simp
          simp only [stepO, lt_dec hj, inB_lt hj, hx, cond_true, cond_false, iAt_cons hj, idxFrom, h0]
        | false =>
          left; refine ⟨(), fun fuel => ?_, ?_⟩
          · simp only [stepO, lt_dec hj, inB_lt hj, hx, cond_true, cond_false]
            rw [wrap64 (by omega) (by omega)]; rfl
          · simp only [iAt_cons hj, idxFrom, hx, cond_false]; rfl
  · cases e
def rO (l : List Int) : Option AV :=
  bif isO clO && decide ((l.length : Int) = l.length) && decide ((l.length : Int) ≤ 9223372036854775807) then bif decide (idxFrom oddB l 0 < 0) then some (.one (.int .i64 (-1))) else some (.one (.int .i64 (idxFrom oddB l 0))) else none
theorem r101o (l : List Int) : run ΓO ΛO [(0, liveO)] F101 [.one (.sl false I none l), clO] [] = rO l := by kernel_rfl
def s101o : Sp := .fn [.v (.sl I), .raw] fun x => (isO x.2, .one (.int .i64 (idxFrom oddB x.1 0)))
theorem g101o : GoodS Tryz.prog N101 s101o := by
  refine good (.cons g377 (.nil _)) H101 rfl (by kernel_rfl) ΛO [(0, liveO)] (oneLoop (p0 := loopK F101 0) (by kernel_rfl) loopO) [.v (.sl I), .raw] (by decide) [] _ fun x r hw h => ?_
  obtain ⟨l, c⟩ := x
  simp only [Prod.mk.injEq] at h
  obtain ⟨h1, rfl⟩ := h
  obtain rfl := isO_eq h1
  refine (r101o l).trans ?_
  unfold rO
  rw [show (isO clO && decide ((l.length : Int) = l.length) && decide ((l.length : Int) ≤ 9223372036854775807)) = true by rw [h1, Bool.true_and]; exact lenMax hw.1.1]
  rcases idxFrom_ge oddB l 0 with h | h
  · rw [h]; rfl
  · have : decide (idxFrom oddB l 0 < 0) = false := by simpa using h
    rw [this]; rfl
theorem r67o (l : List Int) : run (orc [(N101, s101o)]) noL [] F67 [.one (.sl false I none l), clO] [] = some (.one (.bool (decide (idxFrom oddB l 0 ≥ 0)))) := by kernel_rfl
def s67o : Sp := .fn [.v (.sl I), .raw] fun x => (isO x.2, .one (.bool (x.1.any oddB)))
theorem g67o : GoodS Tryz.prog N67 s67o := by
  refine good (.cons g101o (.nil _)) H67 rfl (by kernel_rfl) noL [] (noLoops (by kernel_rfl)) [.v (.sl I), .raw] (by decide) [] _ fun x r hw h => ?_
  obtain ⟨l, c⟩ := x
  simp only [Prod.mk.injEq] at h
  obtain ⟨h1, rfl⟩ := h
  obtain rfl := isO_eq h1
  refine (r67o l).trans ?_
  rw [idx_any _ _ _ (Int.le_refl 0)]
def gWT (x : WS) : AV := .gho (wkT x).ov
theorem gWT_eq {o : OV} {x : WS} (h : unWT o.av = some x) : AV.gho o = gWT x := by
  have := unWT_eq h
  unfold gWT
  rw [← this]
  cases o <;> first | rfl | cases h
def Γ346 : Orc := orc [(N351, s351), (N67, s67o), (N353, s353), (N354, s354)]
abbrev live346 : List (Nat × Dir) := [(6, .keep), (9, .keep), (32, .keep), (33, .keep), (34, .keep), (47, .keep)]
def vs346 (l : List Int) (n i : Int) (x : WS) : List AV := [.own (enc Value false zeroV), .one (.ptr 47 0), .one (.sl false I none l), .one (.int .i64 n), .one (.int .i64 i), gWT x]
noncomputable abbrev lp346 (Λ : Lam AV) (K : AE → List AV → Option AV) (fuel : Nat) (vs : List AV) : Option AV := loopN (aexec tb Γ346 Λ ⟨47, 1, [(0, live346)]⟩ (loopK F346 0).2 0) 47 1 live346 K fuel vs
theorem step346 (l : List Int) (n i : Int) (x : WS) (Λ : Lam AV) (fuel : Nat) (K : AE → List AV → Option AV) : lp346 Λ K (fuel + 1) (vs346 l n i x) =
    bif decide (i < n) then bif inB i l.length then lp346 Λ K fuel (vs346 l n (IntKind.i64.wrap (i + 1)) (stepW x (iAt l i))) else none else K (.exit 0) (vs346 l n i x) := by kernel_rfl
def Λ346 : Lam AV := fun cur vs K =>
  match cur, vs with
  | 0, [.own [.bool false, .bool false, .int .u64 0, .int .u64 0, .int .u64 0, .int .u64 0, .int .u64 0, .int .u64 0, .int .i64 0], .one (.ptr 47 0), .one (.sl false (.int .i64) none l), .one (.int .i64 n), .one (.int .i64 0), .gho o] =>
    (match unWT o.av with
    | some x => bif decide (n = l.length) && decide (n ≤ 9223372036854775807) then K (.exit 0) (vs346 l n n (walkL x l)) else none
    | none => none)
  | _, _ => none
theorem loop346 : LoopP tb Γ346 Λ346 ⟨47, 1, [(0, live346)]⟩ (loopK F346 0) := by
  intro vs K out e
  have hcur : (loopK F346 0).1 = 0 := by kernel_rfl
  rw [hcur] at e ⊢
  unfold Λ346 at e
  split at e
  · rename_i l n o _
    split at e
    · rename_i x hx
      cases hc : (decide (n = l.length) && decide (n ≤ 9223372036854775807)) with
      | false => rw [hc] at e; cases e
      | true =>
        rw [hc] at e
        simp only [cond_true] at e
        simp only [Bool.and_eq_true, decide_eq_true_eq] at hc
        obtain ⟨rfl, hmax⟩ := hc
        rw [gWT_eq hx]
        refine upLoopR (α := WS) (n := l.length) (F := fun fuel x i => lp346 Λ346 K fuel (vs346 l l.length i x)) (G := fun j x => K (.exit 0) (vs346 l l.length l.length (walkL x (l.drop j))))
          (fun fuel x => ?_) (fun x j hj => ?_) l.length 0 x out (by omega) e
        · simp only [step346, nlt_dec, cond_false, List.drop_length, walkL]
        · left
          refine ⟨stepW x (iAt l j), fun fuel => ?_, by rw [walk_drop hj]⟩
          simp only [step346, lt_dec hj, inB_lt hj, cond_true]
          rw [wrap64 (by omega) (by omega)]; rfl
    · cases e
  · cases e
@[reducible] def W3 : List AK := [.v (.sl Term), .v Value, .v (.sl I)]
def noWalk (l : List Term.D) (v : Value.D) (sd : List Int) : Bool := bif bif startE l v != 0 then true else decide ((sd.length : Int) > 32) then true else sd.any oddB
def walkV (l : List Term.D) (v : Value.D) (sd : List Int) : WS := bif noWalk l v sd then (zeroV, [], 1) else endW (walkL (startW l v) sd)
theorem r346 (l : List Term.D) (v : Value.D) (sd : List Int) : runG Γ346 Λ346 1 [(0, live346)] F346 (encA W3 (l, v, sd)) wVle =
    bif small24 l.length then bif noWalk l v sd then some (vle (zeroV, [], 1)) else bif lenB sd then some (vle (endW (walkL (startW l v) sd))) else none else none := by kernel_rfl
def s346 : Sp := .fn W3 fun x => (small24 x.1.length, vle (walkV x.1 x.2.1 x.2.2))
theorem Γ346ok : OrcOk Tryz.prog Γ346 := .cons g351 (.cons g67o (.cons g353 (.cons g354 (.nil _))))
theorem g346 : GoodS Tryz.prog N346 s346 := by
  refine goodG Γ346ok H346 rfl (by kernel_rfl) Λ346 1 [(0, live346)] (oneLoop (p0 := loopK F346 0) (by kernel_rfl) loop346) W3 (by decide) wVle _ fun x r hw e => ?_
  obtain ⟨l, v, sd⟩ := x
  have e1 := congrArg Prod.fst e
  have e2 := congrArg Prod.snd e
  simp only at e1 e2
  refine (r346 l v sd).trans ?_
  rw [e1, ← e2, show lenB sd = true from lenMax hw.2.2.1]
  unfold walkV
  cases noWalk l v sd <;> rfl

@[reducible] def Entry : Ty := .pair Subset Value
abbrev live349 : List (Nat × Dir) := [(0, .keep), (4, .keep), (10, .keep), (11, .keep), (36, .keep), (37, .keep), (38, .keep)]
def vs349 (l : List Term.D) (e0 : List Entry.D) (r : Int) (ps : List Subset.D) (es : List Entry.D) (n i : Int) : List AV := [.one (.sl false Term none l), .one (.sl false Entry none e0), .one (.int .i64 r), .one (.sl true Subset none ps), .one (.sl false Entry none es), .one (.int .i64 n), .one (.int .i64 i)]
def openV (l : List Term.D) (v : Value.D) : Bool := bif (bif checkV l v == 0 then !v.2.1 else false) then bif !v.1 then true else (tAt l v.2.2.2.2).1 != 5 else false
def g379' (l : List Term.D) (v : Value.D) : Bool := inB v.2.2.2.2 l.length || !(boolBeq (bif checkV l v == 0 then !v.2.1 else false) true && boolBeq (!v.1) false)
theorem r379 (l : List Term.D) (v : Value.D) : run (orc [(N19, s19)]) noL [] F379 (encA [.v (.sl Term), .v Value] (l, v)) [] = bif g379' l v then some (.one (.bool (openV l v))) else none := by kernel_rfl
def s379 : Sp := .fn [.v (.sl Term), .v Value] fun x => (true, .one (.bool (openV x.1 x.2)))
def Γ349 : Orc := orc [(N310, s310), (N49, s49), (N379, s379)]
theorem small_le {n : Nat} (h : n ≤ 1000000) : small24 n = true := decide_eq_true (by omega)

/-- The term to which a way (its last step first) leads from the term at t0. -/
def At (l : List Term.D) (t0 : Nat) : List Int → Nat → Prop
  | [], t => t = t0 ∧ ∃ x : Term.D, l[t0]? = some x ∧ x.1 ≠ 5
  | i :: p, t => ∃ u : Nat, At l t0 p u ∧ l[t]? = some (2 + i, (u : Int), 0)
def In02 (p : List Int) : Prop := ∀ x ∈ p, 0 ≤ x ∧ x ≤ 2
theorem At.mono {l : List Term.D} {t0 : Nat} (r : List Term.D) : ∀ {p : List Int} {t : Nat}, At l t0 p t → At (l ++ r) t0 p t := by
  have up : ∀ {t : Nat} {x : Term.D}, l[t]? = some x → (l ++ r)[t]? = some x := fun {t x} h => by
    have := (List.getElem?_eq_some_iff.1 h).1
    rw [List.getElem?_append_left this]; exact h
  intro p
  induction p with
  | nil => rintro t ⟨h1, x, h2, h3⟩; exact ⟨h1, x, up h2, h3⟩
  | cons i p ih => rintro t ⟨u, h1, h2⟩; exact ⟨u, ih h1, up h2⟩
theorem At.get {l : List Term.D} {t0 : Nat} {p : List Int} {t : Nat} (h : At l t0 p t) (hp : In02 p) : ∃ x : Term.D, l[t]? = some x ∧ x.1 ≠ 5 := by
  cases p with
  | nil => obtain ⟨rfl, x, h1, h2⟩ := h; exact ⟨x, h1, h2⟩
  | cons i p =>
    obtain ⟨u, _, h2⟩ := h
    have := hp i (by simp)
    exact ⟨_, h2, by show 2 + i ≠ 5; omega⟩
def foldW (b : Block.D) : List Int → Block.D
  | [] => b
  | i :: p => (partR (foldW b p) i).1
/-- What stands for a way. -/
def Std (sym : Bool) (b : Block.D) (t0 : Nat) (l : List Term.D) (p : List Int) (v : Value.D) : Prop :=
  match sym with
  | true => ∃ t : Nat, v = symV t ∧ At l t0 p t
  | false => v = octV (foldW b p)
structure Den (sym : Bool) (b : Block.D) (t0 : Nat) (l : List Term.D) (p : List Int) (v : Value.D) : Prop where
  good : GoodL l
  way : In02 p
  std : Std sym b t0 l p v
section
variable {sym : Bool} {b : Block.D} {t0 : Nat} {l : List Term.D} {p : List Int} {v w : Value.D}
theorem Den.mono (h : Den sym b t0 l p v) {r : List Term.D} (hg : GoodL (l ++ r)) : Den sym b t0 (l ++ r) p v := by
  obtain ⟨h1, h2, h3⟩ := h
  refine ⟨hg, h2, ?_⟩
  cases sym with
  | true => obtain ⟨t, e, h⟩ := h3; exact ⟨t, e, h.mono r⟩
  | false => exact h3
theorem Den.facts (h : Den sym b t0 l p v) : checkV l v = 0 ∧ ownV l v = false ∧ v.2.1 = false ∧ v.1 = sym ∧ (sym = true → ((tAt l v.2.2.2.2).1 == 5) = false) := by
  obtain ⟨h1, h2, h3⟩ := h
  cases sym with
  | true =>
    obtain ⟨t, rfl, h⟩ := h3
    obtain ⟨x, g1, g2⟩ := h.get h2
    have hlt := (List.getElem?_eq_some_iff.1 g1).1
    have hk : ((tAt l (t : Int)).1 == 5) = false := by rw [tAt_get g1]; simpa using g2
    exact ⟨check_sym h1 (by omega) (by omega), hk, rfl, rfl, fun _ => hk⟩
  | false =>
    obtain rfl : v = octV (foldW b p) := h3
    exact ⟨check_oct h1 _, rfl, rfl, rfl, fun h => by cases h⟩
theorem Den.start (h : Den sym b t0 l p v) : startW l v = (v, l, 0) := by
  obtain ⟨h1, h2, h3, h4, h5⟩ := h.facts
  unfold startW startE b51
  rw [h1, h3, h4]
  cases sym with
  | true => rw [h5 rfl]; rfl
  | false => rfl
/-- One step on. -/
theorem Den.step (h : Den sym b t0 l p v) (hl : l.length < 65536) {i : Int} (h0 : 0 ≤ i) (h2 : i ≤ 2) : ∃ v' r, partV l v i = (v', l ++ r, 0) ∧ r.length ≤ 1 ∧ Den sym b t0 (l ++ r) (i :: p) v' := by
  obtain ⟨f1, f2, f3, f4, f5⟩ := h.facts
  obtain ⟨g1, g2, g3⟩ := h
  have hp : In02 (i :: p) := fun x hx => (List.mem_cons.1 hx).elim (fun e => e ▸ ⟨h0, h2⟩) (g2 x)
  have he := partV_may hl f1 f2 h0 h2
  have hb := partBad_false.2 ⟨f1, f2, h0, h2⟩
  unfold partV at he ⊢
  rw [hb] at he ⊢
  simp only [cond_false] at he ⊢
  cases sym with
  | true =>
    obtain ⟨t, rfl, ha⟩ := g3
    have e1 : (symV (t : Int)).1 = true := rfl
    have e2 : IntKind.i64.wrap (2 + i) = 2 + i := wrap64 (by omega) (by omega)
    rw [e1, e2] at he ⊢
    simp only [cond_true] at he ⊢
    obtain ⟨j, r, m1, m2, m3, m4, m5⟩ := madeV_ok he
    have hlen := madeV_len l (2 + i, (t : Int), 0)
    have m1' : madeV l (2 + i, (t : Int), 0) = (symV j, l ++ r, 0) := m1
    rw [m1'] at hlen
    refine ⟨symV j, r, m1, by simpa using hlen, m3, hp, j, rfl, t, ha.mono r, m4⟩
  | false =>
    obtain rfl : v = octV (foldW b p) := g3
    have e1 : (octV (foldW b p)).1 = false := rfl
    rw [e1] at he ⊢
    simp only [cond_false] at he ⊢
    refine ⟨_, [], by rw [List.append_nil, he]; rfl, by simp, by rw [List.append_nil]; exact g1, hp, rfl⟩
/-- A way on. -/
theorem Den.walk : ∀ (sd : List Int) {l : List Term.D} {p : List Int} {v : Value.D}, Den sym b t0 l p v → In02 sd → l.length + sd.length ≤ 65536 →
    ∃ v' r, walkL (v, l, 0) sd = (v', l ++ r, 0) ∧ r.length ≤ sd.length ∧ Den sym b t0 (l ++ r) (sd.reverse ++ p) v' := by
  intro sd
  induction sd with
  | nil => intro l p v h _ _; exact ⟨v, [], by rw [List.append_nil]; rfl, by simp, by rw [List.append_nil]; exact h⟩
  | cons i sd ih =>
    intro l p v h hs hl
    rw [List.length_cons] at hl
    obtain ⟨i0, i2⟩ := hs i (by simp)
    obtain ⟨v1, r1, a1, a2, a3⟩ := h.step (by omega) i0 i2
    obtain ⟨v2, r2, b1, b2, b3⟩ := ih a3 (fun x hx => hs x (by simp [hx])) (by rw [List.length_append]; omega)
    refine ⟨v2, r1 ++ r2, ?_, by rw [List.length_append, List.length_cons]; omega, by rw [List.reverse_cons, List.append_assoc, ← List.append_assoc l]; exact b3⟩
    rw [walkL, ← List.append_assoc, ← b1]
    congr 1
end
theorem walkL_app : ∀ (a c : List Int) (x : WS), walkL x (a ++ c) = walkL (walkL x a) c := by
  intro a
  induction a with
  | nil => intro c x; rfl
  | cons i a ih => intro c x; exact ih c _
theorem stepW_stay {x : WS} {i : Int} (hx : x.2.2 ≠ 0) : stepW x i = x := by
  unfold stepW; rw [show (x.2.2 == 0) = false by simpa using hx]; rfl

theorem g379'_true (l : List Term.D) (v : Value.D) : g379' l v = true := by
  unfold g379'
  cases h1 : checkV l v == 0 with
  | false => cases inB v.2.2.2.2 l.length <;> rfl
  | true =>
    cases h2 : v.1 with
    | false => cases inB v.2.2.2.2 l.length <;> cases v.2.1 <;> rfl
    | true => rw [sym_in (eq_of_beq h1) h2]; rfl
theorem g379 : GoodS Tryz.prog N379 s379 := by
  refine good (.cons g19 (.nil _)) H379 rfl (by kernel_rfl) noL [] (noLoops (by kernel_rfl)) [.v (.sl Term), .v Value] (by decide) [] _ fun x r hw e => ?_
  obtain ⟨l, v⟩ := x
  cases e
  rw [r379, g379'_true]; rfl
def eAt (es : List Entry.D) (i : Int) : Entry.D := es.getD i.toNat Entry.dflt
def sameS (a b : Subset.D) : Bool := a.1 == b.1 && a.2 == b.2
noncomputable abbrev lp349 (Λ : Lam AV) (K : AE → List AV → Option AV) (fuel : Nat) (vs : List AV) : Option AV := loopN (aexec tb Γ349 Λ ⟨69, 0, [(0, live349)]⟩ (loopK F349 0).2 0) 69 0 live349 K fuel vs
theorem step349 (l : List Term.D) (e0 : List Entry.D) (r : Int) (ps : List Subset.D) (es : List Entry.D) (n i : Int) (Λ : Lam AV) (fuel : Nat) (K : AE → List AV → Option AV) : lp349 Λ K (fuel + 1) (vs349 l e0 r ps es n i) =
    bif decide (i < n) then bif inB i es.length then bif inB i ps.length then
      bif !(sameS (eAt es i).1 (sAt ps i)) then K .ret (vs349 l e0 1 ps es n i) else bif !openV l (eAt es i).2 then K .ret (vs349 l e0 1 ps es n i) else
      bif inB 0 e0.length then bif !((eAt es i).2.1 == (eAt e0 0).2.1) then K .ret (vs349 l e0 1 ps es n i) else lp349 Λ K fuel (vs349 l e0 r ps es n (IntKind.i64.wrap (i + 1))) else none
    else none else none else K (.exit 0) (vs349 l e0 r ps es n i) := by kernel_rfl
def badE (l : List Term.D) (e0 es : List Entry.D) (ps : List Subset.D) (i : Int) : Bool := bif !(sameS (eAt es i).1 (sAt ps i)) then true else bif !openV l (eAt es i).2 then true else !((eAt es i).2.1 == (eAt e0 0).2.1)
def Λ349 : Lam AV := fun cur vs K =>
  match cur, vs with
  | 0, [.one (.sl false (.pair (.int .i64) (.pair (.int .i64) (.int .i64))) none l), .one (.sl false (.pair (.pair (.int .u64) (.int .u64)) (.pair .bool (.pair .bool (.pair (.pair (.int .u64) (.int .u64)) (.pair (.pair (.pair (.int .u64) (.int .u64)) (.pair (.int .u64) (.int .u64))) (.int .i64)))))) none e0), .one (.int .i64 r),
      .one (.sl true (.pair (.int .u64) (.int .u64)) none ps), .one (.sl false (.pair (.pair (.int .u64) (.int .u64)) (.pair .bool (.pair .bool (.pair (.pair (.int .u64) (.int .u64)) (.pair (.pair (.pair (.int .u64) (.int .u64)) (.pair (.int .u64) (.int .u64))) (.int .i64)))))) none es), .one (.int .i64 n), .one (.int .i64 0)] =>
    bif decide (n = es.length) && decide (es.length = ps.length) && decide (n ≤ 9223372036854775807) && decide (e0.length = es.length) then allK (fun j => K .ret (vs349 l e0 1 ps es n j)) (K (.exit 0) (vs349 l e0 r ps es n n)) (fun j => badE l e0 es ps j) n.toNat 0 else none
  | _, _ => none
theorem loop349 : LoopP tb Γ349 Λ349 ⟨69, 0, [(0, live349)]⟩ (loopK F349 0) := by
  intro vs K out e
  have hcur : (loopK F349 0).1 = 0 := by kernel_rfl
  rw [hcur] at e ⊢
  unfold Λ349 at e
  split at e
  · rename_i l e0 r ps es n _
    cases hc : (decide (n = es.length) && decide (es.length = ps.length) && decide (n ≤ 9223372036854775807) && decide (e0.length = es.length)) with
    | false => rw [hc] at e; cases e
    | true =>
      rw [hc] at e
      simp only [cond_true] at e
      simp only [Bool.and_eq_true, decide_eq_true_eq] at hc
      obtain ⟨⟨⟨rfl, hl⟩, hmax⟩, he0⟩ := hc
      refine upLoop (α := Unit) (n := es.length) (F := fun fuel _ j => lp349 Λ349 K fuel (vs349 l e0 r ps es es.length j))
        (G := fun j _ => allK (fun j => K .ret (vs349 l e0 1 ps es es.length j)) (K (.exit 0) (vs349 l e0 r ps es es.length es.length)) (fun j => badE l e0 es ps j) (es.length - j) j)
        (fun fuel _ => ?_) (fun _ j hj => ?_) es.length 0 () out (by omega) e
      · simp only [step349, nlt_dec, cond_false, Nat.sub_self, allK]
      · have hm : es.length - j = (es.length - (j + 1)) + 1 := by omega
        have h0 : inB 0 e0.length = true := inB_lt (j := 0) (by omega)
        have hstep : ∀ fuel, lp349 Λ349 K (fuel + 1) (vs349 l e0 r ps es es.length j) = bif badE l e0 es ps j then K .ret (vs349 l e0 1 ps es es.length j) else lp349 Λ349 K fuel (vs349 l e0 r ps es es.length ((j + 1 : Nat) : Int)) := by
          intro fuel
          rw [step349, lt_dec hj, inB_lt hj, inB_lt (show j < ps.length by omega), h0, wrap64 (n := (j : Int) + 1) (by omega) (by omega)]
          unfold badE
          cases sameS (eAt es (j : Int)).1 (sAt ps (j : Int)) <;> cases openV l (eAt es (j : Int)).2 <;> rfl
        cases hx : badE l e0 es ps j with
        | true => right; intro fuel; rw [hstep, hx]; simp only [hm, allK, hx, cond_true]
        | false =>
          left; refine ⟨(), fun fuel => ?_, ?_⟩
          · rw [hstep, hx]; rfl
          · simp only [hm, allK, hx, cond_false]
  · cases e
def anyK (bad : Nat → Bool) : Nat → Nat → Bool
  | 0, _ => false
  | m + 1, j => bif bad j then true else anyK bad m (j + 1)
theorem allK_two {X E : Option AV} {bad : Nat → Bool} : ∀ (m j : Nat), allK (fun _ => X) E bad m j = bif anyK bad m j then X else E := by
  intro m
  induction m with
  | zero => intro j; rfl
  | succ m ih =>
    intro j
    rw [allK, anyK, ih]
    cases bad j <;> rfl
@[reducible] def C5 : List AK := [.v (.sl Term), .v I, .v I, .v U, .v (.sl Entry)]
def noCk (l : List Term.D) (h k i : Int) (es : List Entry.D) : Bool := bif bif (pairsL h k i).2 != 0 then true else checkL l != 0 then true else (es.length : Int) != (pairsL h k i).1.length
theorem r349 (l : List Term.D) (h k i : Int) (es : List Entry.D) : run Γ349 Λ349 [(0, live349)] F349 (encA C5 (l, h, k, i, es)) [] =
    bif noCk l h k i es then some (.one (.int .i64 1)) else
    bif decide ((es.length : Int) = es.length) && decide (es.length = (pairsL h k i).1.length) && decide ((es.length : Int) ≤ 9223372036854775807) && decide (es.length = es.length) then
      allK (fun _ => some (.one (.int .i64 1))) (some (.one (.int .i64 0))) (fun j => badE l es es (pairsL h k i).1 j) (es.length : Int).toNat 0 else none := by kernel_rfl
def checkS (l : List Term.D) (h k i : Int) (es : List Entry.D) : Int := bif noCk l h k i es then 1 else bif anyK (fun j => badE l es es (pairsL h k i).1 j) es.length 0 then 1 else 0
def s349 : Sp := .fn C5 fun x => (true, .one (.int .i64 (checkS x.1 x.2.1 x.2.2.1 x.2.2.2.1 x.2.2.2.2)))
theorem g349 : GoodS Tryz.prog N349 s349 := by
  refine good (.cons g310 (.cons g49 (.cons g379 (.nil _)))) H349 rfl (by kernel_rfl) Λ349 [(0, live349)] (oneLoop (p0 := loopK F349 0) (by kernel_rfl) loop349) C5 (by decide) [] _ fun x r hw e => ?_
  obtain ⟨l, h, k, i, es⟩ := x
  cases e
  refine (r349 l h k i es).trans ?_
  show _ = some (AV.one (SV.int .i64 (checkS l h k i es)))
  unfold checkS
  cases hn : noCk l h k i es with
  | true => rfl
  | false =>
    have hl : es.length = (pairsL h k i).1.length := by
      unfold noCk at hn
      cases h1 : (pairsL h k i).2 != 0 with
      | true => rw [h1] at hn; cases hn
      | false =>
        cases h2 : checkL l != 0 with
        | true => rw [h1, h2] at hn; cases hn
        | false =>
          rw [h1, h2] at hn
          simp only [cond_false] at hn
          have := (show (((es.length : Int) != ((pairsL h k i).1.length : Int)) = false) from hn)
          have := (bne_eq_false_iff_eq.1 this)
          exact_mod_cast this
    have hmx : es.length ≤ 9223372036854775807 := hw.2.2.2.2.1
    have hg : (decide ((es.length : Int) = es.length) && decide (es.length = (pairsL h k i).1.length) && decide ((es.length : Int) ≤ 9223372036854775807) && decide (es.length = es.length)) = true := by
      rw [decide_eq_true (show (es.length : Int) = es.length from rfl), decide_eq_true hl, decide_eq_true (show (es.length : Int) ≤ 9223372036854775807 by omega), decide_eq_true (show es.length = es.length from rfl)]; rfl
    rw [hg, allK_two, Int.toNat_natCast]
    simp only [cond_true, cond_false]
    cases anyK (fun j => badE l es es (pairsL h k i).1 j) es.length 0 <;> rfl
@[reducible] def K6 : List AK := [.v (.sl Term), .v I, .v I, .v U, .v (.sl Entry), .v Subset]
def Γ319 : Orc := orc [(N349, s349), (N309, s309), (N346, s346), (N22, s22)]
def keyT (l : List Term.D) (h k i : Int) (es : List Entry.D) (s : Subset.D) : WS := walkV l (eAt es (entryI h k i s).1).2 (entryI h k i s).2.1
def fin319 (x : WS) (s : Subset.D) : Option AV := bif (bif x.2.2 != 0 then true else s.2 == 0) then some (vle x) else some (vle (partV x.2.1 x.1 2))
theorem r319 (l : List Term.D) (h k i : Int) (es : List Entry.D) (s : Subset.D) : run Γ319 noL [] F319 (encA K6 (l, h, k, i, es, s)) wVle =
    bif checkS l h k i es != 0 then some (vle (zeroV, [], checkS l h k i es)) else bif (entryI h k i s).2.2 != 0 then some (vle (zeroV, [], (entryI h k i s).2.2)) else
    bif inB (entryI h k i s).1 es.length then bif small24 l.length then fin319 (keyT l h k i es s) s else none else none := by kernel_rfl
def keyR (l : List Term.D) (h k i : Int) (es : List Entry.D) (s : Subset.D) : WS :=
  bif checkS l h k i es != 0 then (zeroV, [], checkS l h k i es) else bif (entryI h k i s).2.2 != 0 then (zeroV, [], (entryI h k i s).2.2) else
  bif (bif (keyT l h k i es s).2.2 != 0 then true else s.2 == 0) then keyT l h k i es s else partV (keyT l h k i es s).2.1 (keyT l h k i es s).1 2
def s319 : Sp := .fn K6 fun x => (decide (x.1.length ≤ 1000000), vle (keyR x.1 x.2.1 x.2.2.1 x.2.2.2.1 x.2.2.2.2.1 x.2.2.2.2.2))
theorem checkS_len {l : List Term.D} {h k i : Int} {es : List Entry.D} (hc : checkS l h k i es = 0) : es.length = (pairsL h k i).1.length ∧ (pairsL h k i).2 = 0 ∧ checkL l = 0 ∧ ∀ j, j < es.length → badE l es es (pairsL h k i).1 j = false := by
  unfold checkS at hc
  cases hn : noCk l h k i es with
  | true => rw [hn] at hc; cases hc
  | false =>
    rw [hn] at hc
    unfold noCk at hn
    cases h1 : (pairsL h k i).2 != 0 with
    | true => rw [h1] at hn; cases hn
    | false =>
      cases h2 : checkL l != 0 with
      | true => rw [h1, h2] at hn; cases hn
      | false =>
        rw [h1, h2] at hn
        simp only [cond_false] at hn hc
        have h3 := bne_eq_false_iff_eq.1 hn
        refine ⟨by exact_mod_cast h3, by simpa using h1, by simpa using h2, fun j hj => ?_⟩
        have key : ∀ (m j0 : Nat) (bad : Nat → Bool), anyK bad m j0 = false → ∀ j, j0 ≤ j → j < j0 + m → bad j = false := by
          intro m
          induction m with
          | zero => intro j0 bad _ j a b; omega
          | succ m ih =>
            intro j0 bad he j a b
            rw [anyK] at he
            cases hb : bad j0 with
            | true => rw [hb] at he; cases he
            | false =>
              rw [hb] at he
              rcases Nat.lt_or_eq_of_le a with h | h
              · exact ih (j0 + 1) bad he j h (by omega)
              · rw [← h]; exact hb
        cases ha : anyK (fun j => badE l es es (pairsL h k i).1 j) es.length 0 with
        | true => rw [ha] at hc; cases hc
        | false => exact key es.length 0 _ ha j (Nat.zero_le j) (by omega)
theorem entry_in {h k i : Int} {s : Subset.D} (he : (entryI h k i s).2.2 = 0) : 0 ≤ (entryI h k i s).1 ∧ (entryI h k i s).1 < (pairsL h k i).1.length := by
  obtain ⟨_, _, h3⟩ := entry_ok he
  rcases h3 with ⟨_, m1, m2⟩ | ⟨_, _, _, m1, m2⟩
  · obtain ⟨a, b, _⟩ := idxS_ok m1
    rw [m2]; exact ⟨a, b⟩
  · obtain ⟨a, b, _⟩ := idxS_ok m1
    rw [m2]; exact ⟨a, b⟩
theorem g319 : GoodS Tryz.prog N319 s319 := by
  refine good (.cons g349 (.cons g309 (.cons g346 (.cons g22 (.nil _))))) H319 rfl (by kernel_rfl) noL [] (noLoops (by kernel_rfl)) K6 (by decide) wVle _ fun x r hw e => ?_
  obtain ⟨l, h, k, i, es, s⟩ := x
  have e1 := congrArg Prod.fst e
  have e2 := congrArg Prod.snd e
  simp only [decide_eq_true_eq] at e1
  simp only at e2
  refine (r319 l h k i es s).trans ?_
  rw [small_le e1, ← e2]
  unfold keyR
  cases hc : checkS l h k i es != 0 with
  | true => rfl
  | false =>
    cases he : (entryI h k i s).2.2 != 0 with
    | true => rfl
    | false =>
      obtain ⟨c1, _⟩ := checkS_len (l := l) (h := h) (k := k) (i := i) (es := es) (by simpa using hc)
      obtain ⟨c2, c3⟩ := entry_in (h := h) (k := k) (i := i) (s := s) (by simpa using he)
      have hb : inB (entryI h k i s).1 es.length = true := by
        unfold inB
        rw [decide_eq_true c2, decide_eq_true (by rw [c1]; exact c3)]; rfl
      simp only [cond_false]
      rw [hb]
      unfold fin319
      cases (bif (keyT l h k i es s).2.2 != 0 then true else s.2 == 0) <;> rfl
theorem odd_01 {l : List Int} (h : ∀ x ∈ l, 0 ≤ x ∧ x ≤ 1) : l.any oddB = false := by
  rw [List.any_eq_false]
  intro x hx
  have := h x hx
  have : x = 0 ∨ x = 1 := by omega
  rcases this with rfl | rfl <;> decide
section
variable {sym : Bool} {b : Block.D} {t0 : Nat} {l : List Term.D} {m : Value.D}

theorem outG_len (h k leaf : Int) : ∀ (m t : Nat) (out : List (Int × Int)), (outG h k leaf m t out).length ≤ out.length + m * h.toNat := by
  intro m
  induction m with
  | zero => intro t out; simp [outG]
  | succ m ih =>
    intro t out
    refine Nat.le_trans (ih _ _) ?_
    have := inG_len h k leaf t (h.toNat - t) (t + 1) out
    rw [Nat.succ_mul]
    omega
theorem wG_len (h leaf : Int) : ∀ (m j : Nat) (out : List (Int × Int)), (wG h leaf m j out).length = out.length + m := by
  intro m
  induction m with
  | zero => intro j out; rfl
  | succ m ih => intro j out; rw [wG, ih]; simp; omega
theorem pairs_len (h k i : Int) : (pairsL h k i).1.length ≤ 9223372036854775807 := by
  unfold pairsL
  cases hn : noPr h k i with
  | true => exact Nat.zero_le _
  | false =>
    obtain ⟨h1, h2, _⟩ := many_ok (noPr_ok hn).1
    cases k == 1 with
    | true =>
      show (wG h (leafI h i).1 (h.toNat + 1) 0 []).length ≤ _
      rw [wG_len]
      have : h.toNat ≤ 32 := by omega
      simp; omega
    | false =>
      refine Nat.le_trans (outG_len _ _ _ _ _ _) ?_
      have : h.toNat * h.toNat ≤ 32 * 32 := Nat.mul_le_mul (by omega) (by omega)
      simp; omega
theorem g314 : GoodS Tryz.prog N314 s309 := by
  refine good (.cons g334 (.cons g335 (.cons g336 (.cons g337 (.cons g338 (.nil _)))))) H314 rfl (by kernel_rfl) Λ314 [(0, live314)] (oneLoop (p0 := loopK F314 0) (by kernel_rfl) loop314) [.v I, .v I, .v U, .v Subset] (by decide) [.id, .sl true I, .id] _ fun x r hw e => ?_
  obtain ⟨h, k, i, s⟩ := x
  cases e
  exact (r314 h k i s).trans (entry_ref hw.2.2.2.1 hw.2.2.2.2 hw.2.2.1 (pairs_len h k i))
def hot (n : Nat) : AV := .one (.hot n none)
def Γ22io : Orc := orc [(N44, s44), (N45, s45io), (N47, s47), (N53, s53)]
theorem r22io (l : List Term.D) (v : Value.D) (i : Int) : runIO Γ22io noL2 1 [] F22 (encA P3 (l, v, i)) [] 0 wRow =
    bif partBad l v i then some (rowV zeroV 1, [.arr true Term []]) else
    bif v.1 then some (rowV (madeV l (IntKind.i64.wrap (2 + i), v.2.2.2.2, 0)).1 (madeV l (IntKind.i64.wrap (2 + i), v.2.2.2.2, 0)).2.2, [.arr true Term (madeV l (IntKind.i64.wrap (2 + i), v.2.2.2.2, 0)).2.1]) else
    bif small24 l.length then some (rowV (octV (partR v.2.2.1 i).1) (partR v.2.2.1 i).2, [.arr true Term l]) else none := by kernel_rfl
def s22io : Sp := .io fun a p gs => match a, p, gs with
  | [.one (.sl false (.pair (.int .i64) (.pair (.int .i64) (.int .i64))) none l), .agg [.bool v1, .bool v2, .int .u64 v3, .int .u64 v4, .int .u64 v5, .int .u64 v6, .int .u64 v7, .int .u64 v8, .int .i64 v9], .one (.int .i64 i)], 0, [] =>
    let v : Value.D := (v1, v2, (v3, v4), ((v5, v6), (v7, v8)), v9)
    some (true, rowV (partV l v i).1 (partV l v i).2.2, [.arr true Term (partV l v i).2.1])
  | _, _, _ => none
theorem part_run (l : List Term.D) (v : Value.D) (i : Int) : runIO Γ22io noL2 1 [] F22 (encA P3 (l, v, i)) [] 0 wRow = some (rowV (partV l v i).1 (partV l v i).2.2, [.arr true Term (partV l v i).2.1]) := by
  rw [r22io]
  simp only [partV]
  cases h0 : partBad l v i with
  | true => rfl
  | false =>
    cases v.1 with
    | true => rfl
    | false =>
      unfold partBad at h0
      cases h1 : isV l [false] [v] != 0 with
      | true => rw [h1] at h0; cases h0
      | false =>
        have hz : isV l [false] [v] = 0 := by simpa using h1
        rw [small_of (checkL_small (checkV_zero.1 (isV_one.1 hz).1).1)]; rfl
theorem g22io : GoodS Tryz.prog N22 s22io := by
  refine GoodS.io (callable_of H22 (bd rfl) (by kernel_rfl)) fun a p gs r gs' hw1 hw2 h => ?_
  clear hw1 hw2
  split at h
  · rename_i l v1 v2 v3 v4 v5 v6 v7 v8 v9 i
    cases h
    exact goodIO0 (.cons g44 (.cons g45io (.cons g47 (.cons g53 (.nil _))))) H22 rfl noL2 1 [] (noLoops2 (by kernel_rfl)) (encA P3 (l, (v1, v2, (v3, v4), ((v5, v6), (v7, v8)), v9), i)) rfl (by show 3 ≤ _; decide) wRow
      (part_run l (v1, v2, (v3, v4), ((v5, v6), (v7, v8)), v9) i)
  · cases h
def s22h : Sp := .io fun a p gs => match a, p, gs with
  | [.one (.hot 0 none), .agg [.bool v1, .bool v2, .int .u64 v3, .int .u64 v4, .int .u64 v5, .int .u64 v6, .int .u64 v7, .int .u64 v8, .int .i64 v9], .one (.int .i64 i)], 0, [.arr false (.pair (.int .i64) (.pair (.int .i64) (.int .i64))) l] =>
    let v : Value.D := (v1, v2, (v3, v4), ((v5, v6), (v7, v8)), v9)
    some (true, rowV (partV l v i).1 (partV l v i).2.2, [.arr false Term (partV l v i).2.1])
  | _, _, _ => none
theorem g22h : GoodS Tryz.prog N22 s22h := by
  refine GoodS.io (callable_of H22 (bd rfl) (by kernel_rfl)) fun a p gs r gs' hw1 hw2 h => ?_
  clear hw1 hw2
  split at h
  · rename_i v1 v2 v3 v4 v5 v6 v7 v8 v9 i l
    cases h
    have h0 : GoodIO Tryz.prog N22 (encA P3 (l, (v1, v2, (v3, v4), ((v5, v6), (v7, v8)), v9), i)) 0 [] (rowV (partV l (v1, v2, (v3, v4), ((v5, v6), (v7, v8)), v9) i).1 (partV l (v1, v2, (v3, v4), ((v5, v6), (v7, v8)), v9) i).2.2) [.arr true Term (partV l (v1, v2, (v3, v4), ((v5, v6), (v7, v8)), v9) i).2.1] := g22io.2.2 _ 0 [] _ _ rfl
    exact (GoodIO.hot (T := Term) h0 rfl (fun g hg => by rw [List.mem_singleton.1 hg]; rfl)).lax
  · cases h
def obW (n : Nat) (x : WS) : AV := .own (.hot n none :: (enc Value true x.1 ++ [.int .i64 x.2.2]))
def unWh : AV → AV → Option WS
  | .own [.hot 1 none, .bool a, .bool b, .int .u64 c, .int .u64 d, .int .u64 e, .int .u64 f, .int .u64 g, .int .u64 h, .int .i64 t, .int .i64 er], .arr false (.pair (.int .i64) (.pair (.int .i64) (.int .i64))) l => some ((a, b, (c, d), ((e, f), (g, h)), t), l, er)
  | _, _ => none
theorem unWh_eq {a g : AV} {x : WS} (h : unWh a g = some x) : a = obW 1 x ∧ g = .arr false Term x.2.1 := by
  unfold unWh at h
  split at h
  · cases h; exact ⟨rfl, rfl⟩
  · cases h
def unit3 (x : WS) : Option (AV × List AV) := some (.tup [], [obW 1 x, .arr false Term x.2.1])
theorem r353h (l : List Term.D) (v : Value.D) (e i : Int) : runIO (orcL 33 [(N22, s22h)]) noL2 2 [] F353 [.one (.ptr 32 0), .one (.int .i64 i)] [obW 33 (v, l, e), .arr false Term l] 1 [] =
    bif e == 0 then allSame (List.replicate 2 (unit3 (partV l v i))) else unit3 (v, l, e) := by kernel_rfl
def s353h : Sp := .io fun a p gs => match a, p, gs with
  | [.one (.ptr 0 0), .one (.int .i64 i)], 1, [g, k] => (match unWh g k with
    | some x => some (true, .tup [], [obW 1 (stepW x i), .arr false Term (stepW x i).2.1])
    | none => none)
  | _, _, _ => none
theorem g353h : GoodS Tryz.prog N353 s353h := by
  refine GoodS.io (callable_of H353 (bd rfl) (by kernel_rfl)) fun a p gs r gs' hw1 hw2 h => ?_
  clear hw1 hw2
  split at h
  · rename_i i g k
    split at h
    · rename_i x hx
      obtain ⟨rfl, rfl⟩ := unWh_eq hx
      cases h
      obtain ⟨v, l, e⟩ := x
      refine goodIO1 (OrcOk.toL 33 (.cons g22h (.nil _))) H353 rfl noL2 2 [] (noLoops2 (by kernel_rfl)) [.one (.ptr 0 0), .one (.int .i64 i)] [obW 1 (v, l, e), .arr false Term l] 1 (ys := [.one (.ptr 32 0), .one (.int .i64 i)]) (hs := [obW 33 (v, l, e), .arr false Term l]) rfl rfl rfl (Nat.le_succ 1) (by show 2 ≤ _; decide) (Nat.le_refl 2) []
        ((r353h l v e i).trans ?_) (fun x hx => by cases hx; decide)
      unfold stepW
      cases h0 : e == 0 with
      | true => simp only [h0]; exact allSame_rep2 _ 1
      | false => simp only [h0]; rfl
    · cases h
  · cases h
theorem r354h (l : List Term.D) (v : Value.D) (e : Int) : runIO (orcL 23 []) noL2 2 [] F354 [.one (.ptr 23 0)] [obW 24 (v, l, e), .arr false Term l] 0 wRow =
    bif e != 0 then allSame (List.replicate 20 (some (rowV zeroV e, [.arr true Term []]))) else allSame (List.replicate 35 (some (rowV v 0, [.arr false Term l]))) := by kernel_rfl
def s354h : Sp := .io fun a p gs => match a, p, gs with
  | [.one (.ptr 0 0)], 0, [g, k] => (match unWh g k with
    | some x => some (true, rowV (endW x).1 (endW x).2.2, [.arr false Term (endW x).2.1])
    | none => none)
  | _, _, _ => none
theorem g354h : GoodS Tryz.prog N354 s354h := by
  refine GoodS.io (callable_of H354 (bd rfl) (by kernel_rfl)) fun a p gs r gs' hw1 hw2 h => ?_
  clear hw1 hw2
  split at h
  · rename_i g k
    split at h
    · rename_i x hx
      obtain ⟨rfl, rfl⟩ := unWh_eq hx
      cases h
      obtain ⟨v, l, e⟩ := x
      have key : ∀ {r : AV} {gs' : List AV}, runIO (orcL 23 []) noL2 2 [] F354 [.one (.ptr 23 0)] [obW 24 (v, l, e), .arr false Term l] 0 wRow = some (r, gs') → GoodIO Tryz.prog N354 [.one (.ptr 0 0)] 0 [obW 1 (v, l, e), .arr false Term l] r gs' := fun h =>
        goodIO1 (OrcOk.toL 23 (.nil _)) H354 rfl noL2 2 [] (noLoops2 (by kernel_rfl)) [.one (.ptr 0 0)] [obW 1 (v, l, e), .arr false Term l] 0 (ys := [.one (.ptr 23 0)]) (hs := [obW 24 (v, l, e), .arr false Term l]) rfl rfl rfl (Nat.zero_le _) (by show 1 ≤ _; decide) (Nat.le_refl 2) wRow h (fun x hx => by cases hx; decide)
      unfold endW
      cases h0 : e != 0 with
      | true => simp only [h0]; exact (key ((r354h l v e).trans (by rw [h0]; exact allSame_rep2 _ 19))).lax
      | false => simp only [h0]; exact (key ((r354h l v e).trans (by rw [h0]; exact allSame_rep2 _ 34))).lax
    · cases h
  · cases h
theorem r351h (l : List Term.D) (v : Value.D) : runIO (orc [(N19, s19), (N47, s47)]) noL2 0 [] F351 (encA [.v (.sl Term), .v Value] (l, v)) [] 0 [] =
    bif gd51 l v then bif b51 l v then bif small24 l.length then some (.one (.ptr 0 0), [obW 1 (v, l, 1), .arr true Term l]) else none else bif small24 l.length then some (.one (.ptr 0 0), [obW 1 (v, l, checkV l v), .arr true Term l]) else none else none := by kernel_rfl
def s351h : Sp := .io fun a p gs => match a, p, gs with
  | [.one (.sl false (.pair (.int .i64) (.pair (.int .i64) (.int .i64))) none l), g], 0, [] => (match unV g with
    | some v => some (small24 l.length, .one (.ptr 0 0), [obW 1 (startW l v), .arr true Term l])
    | none => none)
  | _, _, _ => none
theorem g351h : GoodS Tryz.prog N351 s351h := by
  refine GoodS.io (callable_of H351 (bd rfl) (by kernel_rfl)) fun a p gs r gs' hw1 hw2 h => ?_
  clear hw1 hw2
  split at h
  · rename_i l g
    split at h
    · rename_i v hv
      obtain rfl := unV_eq hv
      simp only [Option.some.injEq, Prod.mk.injEq] at h
      obtain ⟨hs, rfl, rfl⟩ := h
      refine goodIO0 (.cons g19 (.cons g47 (.nil _))) H351 rfl noL2 0 [] (noLoops2 (by kernel_rfl)) (encA [.v (.sl Term), .v Value] (l, v)) rfl (by show 2 ≤ _; decide) [] ((r351h l v).trans ?_)
      rw [gd51_true, hs]
      unfold startW startE
      cases b51 l v <;> rfl
    · cases h
  · cases h
def unW39 : OV → OV → Option WS
  | .own [.hot 39 none, .bool a, .bool b, .int .u64 c, .int .u64 d, .int .u64 e, .int .u64 f, .int .u64 g, .int .u64 h, .int .i64 t, .int .i64 er], .arr false (.pair (.int .i64) (.pair (.int .i64) (.int .i64))) l => some ((a, b, (c, d), ((e, f), (g, h)), t), l, er)
  | _, _ => none
theorem unW39_eq {a g : OV} {x : WS} (h : unW39 a g = some x) : a = (obW 39 x).ov ∧ g = (AV.arr false Term x.2.1).ov := by
  unfold unW39 at h
  split at h
  · cases h; exact ⟨rfl, rfl⟩
  · cases h
end
end Go.AM.Seat
