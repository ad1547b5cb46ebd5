/- The seat: contracts: values wrapped, unwrapped, atoms. -/
import Derived.Test.YtnkdeglckmogcaaSe6
import Derived.Test.YtnkdeglckmogcaaSe2S
set_option linter.unusedVariables false
set_option maxRecDepth 100000
namespace Go.AM.Seat
open Go Go.AM Go.Proofs

def Γ17 : Orc := orc [(N44, s44), (N45, s45), (N46, s46), (N47, s47)]
def Γ18 : Orc := orc [(N44, s44), (N48, s48)]
def Γ20 : Orc := orc [(N45, s45), (N47, s47), (N49, s49)]
/-! ### value.Wrap, Unwrap, Atom -/
@[reducible] def V3 : List AK := [.v (.sl Term), .v Value, .v Value]
def wrapV (l : List Term.D) (k v : Value.D) : Value.D × List Term.D × Int :=
  bif isV l [false, false] [k, v] != 0 then (zeroV, [], isV l [false, false] [k, v]) else bif k.1 then madeV l (5, k.2.2.2.2, v.2.2.2.2) else (sealV (wrapB k.2.2.1 v.2.2.1), l, 0)
theorem r17 (l : List Term.D) (k v : Value.D) : run Γ17 noL [] F17 (encA V3 (l, k, v)) wVle =
    bif isV l [false, false] [k, v] != 0 then some (vle (zeroV, [], isV l [false, false] [k, v])) else
    bif k.1 then some (vle (madeV l (5, k.2.2.2.2, v.2.2.2.2))) else bif small24 l.length then some (vle (sealV (wrapB k.2.2.1 v.2.2.1), l, 0)) else none := by kernel_rfl
theorem isGo_two (l : List Term.D) (a b : Bool) (v w : Value.D) : isGo l [a, b] (vAt [v, w] 0) [v, w] 0 = bif checkV l v != 0 then checkV l v else bif !(ownV l v == a) then 1 else
    bif checkV l w != 0 then checkV l w else bif !(ownV l w == b) then 1 else bif !(w.1 == v.1) then 1 else 0 := by
  have e : vAt [v, w] 0 = v := rfl
  rw [e]
  simp only [isGo, List.getD_cons_zero, Nat.zero_add, List.getD_cons_succ, beq_self_eq_true, Bool.not_true, cond_false]
theorem isV_two {l : List Term.D} {a b : Bool} {v w : Value.D} : isV l [a, b] [v, w] = 0 ↔ checkV l v = 0 ∧ checkV l w = 0 ∧ ownV l v = a ∧ ownV l w = b ∧ w.1 = v.1 := by
  unfold isV
  rw [isGo_two]
  rcases checkV_one l v with h1 | h1 <;> rcases checkV_one l w with h2 | h2 <;> rw [h1] <;> try rw [h2]
  all_goals
    cases h3 : !(ownV l v == a) <;> cases h4 : !(ownV l w == b) <;> cases h5 : !(w.1 == v.1) <;> simp at h3 h4 h5 <;> simp [h3, h4, h5]
theorem isV_two_one (l : List Term.D) (a b : Bool) (v w : Value.D) : isV l [a, b] [v, w] = 0 ∨ isV l [a, b] [v, w] = 1 := by
  unfold isV
  rw [isGo_two]
  rcases checkV_one l v with h1 | h1 <;> rcases checkV_one l w with h2 | h2 <;> rw [h1] <;> try rw [h2]
  all_goals
    cases h3 : !(ownV l v == a) <;> cases h4 : !(ownV l w == b) <;> cases h5 : !(w.1 == v.1) <;> simp
def s17 : Sp := .fn V3 fun x => (true, vle (wrapV x.1 x.2.1 x.2.2))
theorem g17 : GoodS Try.prog N17 s17 := by
  refine good (.cons g44 (.cons g45 (.cons g46 (.cons g47 (.nil _))))) H17 rfl (by kernel_rfl) noL [] (noLoops (by kernel_rfl)) V3 (by decide) wVle _ fun x r hw h => ?_
  obtain ⟨l, k, v⟩ := x
  cases h
  refine (r17 l k v).trans ?_
  simp only [wrapV]
  cases h0 : isV l [false, false] [k, v] != 0 with
  | true => rfl
  | false =>
    cases k.1 with
    | true => rfl
    | false =>
      have hz : isV l [false, false] [k, v] = 0 := by simpa using h0
      rw [small_of (checkL_small (checkV_zero.1 (isV_two.1 hz).1).1)]; rfl
def ve (x : Value.D × Int) : AV := .tup [(true, enc Value true x.1), (false, [.int .i64 x.2])]
def unwrapV (l : List Term.D) (k w : Value.D) : Value.D × Int :=
  bif isV l [false, true] [k, w] != 0 then (zeroV, isV l [false, true] [k, w]) else bif !k.1 then (octV (unwrapR k.2.2.1 w.2.2.2.1).1, (unwrapR k.2.2.1 w.2.2.2.1).2) else
  bif (tAt l w.2.2.2.2).2.1 != k.2.2.2.2 then (zeroV, 7) else (symV (tAt l w.2.2.2.2).2.2, 0)
theorem r18 (l : List Term.D) (k w : Value.D) : run Γ18 noL [] F18 (encA V3 (l, k, w)) [] =
    bif isV l [false, true] [k, w] != 0 then some (ve (zeroV, isV l [false, true] [k, w])) else bif !k.1 then some (ve (octV (unwrapR k.2.2.1 w.2.2.2.1).1, (unwrapR k.2.2.1 w.2.2.2.1).2)) else
    bif inB w.2.2.2.2 l.length then bif (tAt l w.2.2.2.2).2.1 != k.2.2.2.2 then some (ve (zeroV, 7)) else some (ve (symV (tAt l w.2.2.2.2).2.2, 0)) else none := by kernel_rfl
def s18 : Sp := .fn V3 fun x => (true, ve (unwrapV x.1 x.2.1 x.2.2))
theorem g18 : GoodS Try.prog N18 s18 := by
  refine good (.cons g44 (.cons g48 (.nil _))) H18 rfl (by kernel_rfl) noL [] (noLoops (by kernel_rfl)) V3 (by decide) [] _ fun x r hw h => ?_
  obtain ⟨l, k, w⟩ := x
  cases h
  refine (r18 l k w).trans ?_
  simp only [unwrapV]
  cases h0 : isV l [false, true] [k, w] != 0 with
  | true => rfl
  | false =>
    cases hk : k.1 with
    | false => rfl
    | true =>
      have hz : isV l [false, true] [k, w] = 0 := by simpa using h0
      obtain ⟨_, h2, _, _, h5⟩ := isV_two.1 hz
      obtain ⟨s1, s2⟩ := sym_of h2 (h5.trans hk)
      have hb : inB w.2.2.2.2 l.length = true := by simp only [inB, Bool.and_eq_true, decide_eq_true_eq]; exact ⟨s1, s2⟩
      rw [hb]
      simp only [cond_false, cond_true, Bool.not_true]
      cases (tAt l w.2.2.2.2).2.1 != k.2.2.2.2 <;> rfl
@[reducible] def A4 : List AK := [.v (.sl Term), .v .bool, .v I, .v Block]
def atomV (l : List Term.D) (s : Bool) (n : Int) (b : Block.D) : Value.D × List Term.D × Int := bif s then madeV l (1, n, 0) else bif checkL l != 0 then (zeroV, [], checkL l) else (octV b, l, 0)
theorem r20 (l : List Term.D) (s : Bool) (n : Int) (b : Block.D) : run Γ20 noL [] F20 (encA A4 (l, s, n, b)) wVle =
    bif s then some (vle (madeV l (1, n, 0))) else bif checkL l != 0 then some (vle (zeroV, [], checkL l)) else bif small24 l.length then some (vle (octV b, l, 0)) else none := by kernel_rfl
def s20 : Sp := .fn A4 fun x => (true, vle (atomV x.1 x.2.1 x.2.2.1 x.2.2.2))
theorem g20 : GoodS Try.prog N20 s20 := by
  refine good (.cons g45 (.cons g47 (.cons g49 (.nil _)))) H20 rfl (by kernel_rfl) noL [] (noLoops (by kernel_rfl)) A4 (by decide) wVle _ fun x r hw h => ?_
  obtain ⟨l, s, n, b⟩ := x
  cases h
  refine (r20 l s n b).trans ?_
  simp only [atomV]
  cases s with
  | true => rfl
  | false =>
    cases h0 : checkL l != 0 with
    | true => rfl
    | false => rw [small_of (checkL_small (by simpa using h0))]; rfl
end Go.AM.Seat
