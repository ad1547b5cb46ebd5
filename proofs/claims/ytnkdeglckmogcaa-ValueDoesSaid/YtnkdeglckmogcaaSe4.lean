/- The seat: contracts: terms' places. -/
import Derived.Test.YtnkdeglckmogcaaSe3
set_option linter.unusedVariables false
set_option maxRecDepth 100000
namespace Go.AM.Seat
open Go Go.AM Go.Proofs

/-! ### term.index -/
abbrev Ents := List (Term.D × I.D)
def ixBad (t : Term.D) (i : Int) (es : Ents) : Bool := bif mhas t es then true else !mayB t i
def ixGo : List Term.D → Int → Ents → Bool × Ents × Int
  | [], i, es => (true, es, i)
  | t :: r, i, es => bif ixBad t i es then (false, es, i) else ixGo r (i + 1) (mput t i es)
abbrev live88 : List (Nat × Dir) := [(0, .keep), (2, .keep), (3, .keep), (4, .keep), (14, .keep), (15, .keep), (16, .keep), (17, .keep)]
def Γ88 : Orc := orc [(N104, s104)]
def vs88 (l l2 : List Term.D) (es : Ents) (n i : Int) : List AV :=
  [.one (.sl false Term none l), .one .nilm, .one (.bool false), .one (.mref 14), .mapO true Term I es, .one (.sl false Term none l2), .one (.int .i64 n), .one (.int .i64 i)]
def Λ88 : Lam AV := fun cur vs K =>
  match cur, vs with
  | 0, [.one (.sl false (.pair (.int .i64) (.pair (.int .i64) (.int .i64))) none l), .one .nilm, .one (.bool false), .one (.mref 14), .mapO true (.pair (.int .i64) (.pair (.int .i64) (.int .i64))) (.int .i64) [], .one (.sl false (.pair (.int .i64) (.pair (.int .i64) (.int .i64))) none l2), .one (.int .i64 n), .one (.int .i64 0)] =>
    bif decide (n = l2.length) && decide (n ≤ 9223372036854775807) then
      bif (ixGo l2 0 []).1 then K (.exit 0) (vs88 l l2 (ixGo l2 0 []).2.1 n (ixGo l2 0 []).2.2) else K .ret (vs88 l l2 (ixGo l2 0 []).2.1 n (ixGo l2 0 []).2.2)
    else none
  | _, _ => none
def tAt (l : List Term.D) (i : Int) : Term.D := l.getD i.toNat (0, 0, 0)
theorem step88 (l l2 : List Term.D) (es : Ents) (n i : Int) (K : AE → List AV → Option AV) (fuel : Nat) :
    loopN (aexec tb Γ88 Λ88 ⟨40, 0, [(0, live88)]⟩ (loop1 F88).2 0) 40 0 live88 K (fuel + 1) (vs88 l l2 es n i) =
    bif decide (i < n) then
      bif inB i l2.length then
        bif ixBad (tAt l2 i) i es then K .ret (vs88 l l2 es n i)
        else loopN (aexec tb Γ88 Λ88 ⟨40, 0, [(0, live88)]⟩ (loop1 F88).2 0) 40 0 live88 K fuel (vs88 l l2 (mput (tAt l2 i) i es) n (IntKind.i64.wrap (i + 1)))
      else none
    else K (.exit 0) (vs88 l l2 es n i) := by kernel_rfl
theorem ix_drop {l : List Term.D} {j : Nat} {es : Ents} (h : j < l.length) : ixGo (l.drop j) j es =
    bif ixBad (tAt l j) j es then (false, es, (j : Int)) else ixGo (l.drop (j + 1)) ((j + 1 : Nat) : Int) (mput (tAt l j) j es) := by
  rw [List.drop_eq_getElem_cons h]
  simp only [ixGo, tAt, Int.toNat_natCast, List.getD_eq_getElem?_getD, List.getElem?_eq_getElem h, Option.getD_some]
  rfl
theorem loop88 : LoopP tb Γ88 Λ88 ⟨40, 0, [(0, live88)]⟩ (loop1 F88) := by
  intro vs K out h
  have hcur : (loop1 F88).1 = 0 := by kernel_rfl
  rw [hcur] at h ⊢
  unfold Λ88 at h
  split at h
  · rename_i l l2 n _
    cases hc : (decide (n = l2.length) && decide (n ≤ 9223372036854775807)) with
    | false => rw [hc] at h; cases h
    | true =>
      rw [hc] at h
      simp only [cond_true] at h
      simp only [Bool.and_eq_true, decide_eq_true_eq] at hc
      obtain ⟨hn, hmax⟩ := hc
      subst hn
      have key : ∀ (m j : Nat) (es : Ents), j + m = l2.length → (bif (ixGo (l2.drop j) j es).1 then K (.exit 0) (vs88 l l2 (ixGo (l2.drop j) j es).2.1 l2.length (ixGo (l2.drop j) j es).2.2)
            else K .ret (vs88 l l2 (ixGo (l2.drop j) j es).2.1 l2.length (ixGo (l2.drop j) j es).2.2)) = some out →
          ∃ fuel, loopN (aexec tb Γ88 Λ88 ⟨40, 0, [(0, live88)]⟩ (loop1 F88).2 0) 40 0 live88 K fuel (vs88 l l2 es l2.length j) = some out := by
        intro m
        induction m with
        | zero =>
          intro j es hj h
          refine ⟨1, ?_⟩
          rw [step88]
          have hd : decide ((j : Int) < (l2.length : Int)) = false := by simp; omega
          rw [List.drop_of_length_le (by omega)] at h
          rw [hd]
          exact h
        | succ m ih =>
          intro j es hj h
          have hlt : j < l2.length := by omega
          have hd : decide ((j : Int) < (l2.length : Int)) = true := by simp; omega
          have hb : inB (j : Int) l2.length = true := by simp [inB]; omega
          rw [ix_drop hlt] at h
          cases hx : ixBad (tAt l2 j) j es with
          | true =>
            refine ⟨1, ?_⟩
            rw [step88, hd, hb]
            simp only [cond_true, hx]
            rw [hx] at h
            exact h
          | false =>
            rw [hx] at h
            obtain ⟨fuel, hf⟩ := ih (j + 1) _ (by omega) h
            refine ⟨fuel + 1, ?_⟩
            rw [step88, hd, hb]
            simp only [cond_true, cond_false, hx]
            rw [wrap64 (by omega) (by omega)]
            exact hf
      exact key l2.length 0 [] (by omega) h
  · cases h

def ixL (l : List Term.D) : Bool × Ents × Int := bif decide ((l.length : Int) > 65536) then (false, [], 0) else ixGo l 0 []
def ixEnts (l : List Term.D) : Ents := bif (ixL l).1 then (ixL l).2.1 else []
def s88 : Sp := .fn [.v (.sl Term)] fun l => (true, .tup [(false, [.sm true Term I (ixEnts l)]), (false, [.bool (ixL l).1])])
theorem r88 (l : List Term.D) : run Γ88 Λ88 [(0, live88)] F88 (encA [.v (.sl Term)] l) [.mp true Term I, .id] =
    bif decide ((l.length : Int) > 65536) then some (.tup [(false, [.sm true Term I []]), (false, [.bool false])]) else
    bif decide ((l.length : Int) = l.length) && decide ((l.length : Int) ≤ 9223372036854775807) then
      bif (ixGo l 0 []).1 then some (.tup [(false, [.sm true Term I (ixGo l 0 []).2.1]), (false, [.bool true])]) else some (.tup [(false, [.sm true Term I []]), (false, [.bool false])])
    else none := by kernel_rfl
theorem g88 : GoodS Try.prog N88 s88 := by
  refine good (.cons g104 (.nil _)) H88 rfl (by kernel_rfl) Λ88 [(0, live88)] (oneLoop (p0 := loop1 F88) (by kernel_rfl) loop88) [.v (.sl Term)] (by decide) [.mp true Term I, .id] _ fun l r hw h => ?_
  cases h
  refine (r88 l).trans ?_
  have hmax : (l.length : Int) ≤ 9223372036854775807 := by have : l.length ≤ 9223372036854775807 := hw.1; omega
  simp only [decide_eq_true hmax, decide_true, Bool.and_self, cond_true, ixEnts, ixL]
  cases decide ((l.length : Int) > 65536) with
  | true => rfl
  | false =>
    simp only [cond_false]
    cases hq : (ixGo l 0 []).1 <;> rfl
end Go.AM.Seat
