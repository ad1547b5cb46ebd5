/- The seat: contracts: the definition's values. -/
import Derived.Test.YtnkdeglckmogcaaSe10
set_option linter.unusedVariables false
set_option maxRecDepth 100000
namespace Go.AM.Seat
open Go Go.AM Go.Proofs

/-! ### May, Check, shut, two, own, made -/
@[reducible] def V1 : List AK := [.v (.sl Term), .v Value]
def mayV (l : List Term.D) (v : Value.D) : Bool := bif v.1 then (bif bif valEq v (symV v.2.2.2.2) then decide (v.2.2.2.2 ≥ 0) else false then decide (v.2.2.2.2 < (l.length : Int)) else false) else
  bif v.2.1 then valEq v (sealV v.2.2.2.1) else valEq v (octV v.2.2.1)
theorem r59 (l : List Term.D) (v : Value.D) : run (orc []) noL [] F59 (encA V1 (l, v)) [] =
    bif v.1 then ob (bif bif valEq v (symV v.2.2.2.2) then decide (v.2.2.2.2 ≥ 0) else false then decide (v.2.2.2.2 < (l.length : Int)) else false) else
    bif v.2.1 then ob (valEq v (sealV v.2.2.2.1)) else ob (valEq v (octV v.2.2.1)) := by kernel_rfl
def s59 : Sp := .fn V1 fun x => (true, .one (.bool (mayV x.1 x.2)))
theorem g59 : GoodS Try.prog N59 s59 := by
  refine good (.nil _) H59 rfl (by kernel_rfl) noL [] (noLoops (by kernel_rfl)) V1 (by decide) [] _ fun x r _ h => ?_
  obtain ⟨l, v⟩ := x
  cases h
  refine (r59 l v).trans ?_
  show _ = ob (mayV l v)
  unfold mayV
  cases v.1 <;> cases v.2.1 <;> rfl
def Γ27 : Orc := orc [(N51, s51), (N59, s59)]
def checkVR (l : List Term.D) (v : Value.D) : Int := bif bif checkR l != 0 then true else !mayV l v then 1 else 0
theorem r27 (l : List Term.D) (v : Value.D) : run Γ27 noL [] F27 (encA V1 (l, v)) [] = bif bif checkR l != 0 then true else !mayV l v then some (.one (.int .i64 1)) else some (.one (.int .i64 0)) := by kernel_rfl
def s27 : Sp := .fn V1 fun x => (true, .one (.int .i64 (checkVR x.1 x.2)))
theorem g27 : GoodS Try.prog N27 s27 := by
  refine good (.cons g51 (.cons g59 (.nil _))) H27 rfl (by kernel_rfl) noL [] (noLoops (by kernel_rfl)) V1 (by decide) [] _ fun x r _ h => ?_
  obtain ⟨l, v⟩ := x
  cases h
  refine (r27 l v).trans ?_
  simp only [checkVR]
  cases bif checkR l != 0 then true else !mayV l v <;> rfl
def shutG (l : List Term.D) (v : Value.D) : Bool := bif v.1 then inB v.2.2.2.2 l.length else true
theorem r54 (l : List Term.D) (v : Value.D) : run (orc []) noL [] F54 (encA V1 (l, v)) [] =
    bif v.1 then (bif inB v.2.2.2.2 l.length then ob ((tAt l v.2.2.2.2).1 == 5) else none) else ob v.2.1 := by kernel_rfl
def s54 : Sp := .fn V1 fun x => (shutG x.1 x.2, .one (.bool (ownV x.1 x.2)))
theorem g54 : GoodS Try.prog N54 s54 := by
  refine good (.nil _) H54 rfl (by kernel_rfl) noL [] (noLoops (by kernel_rfl)) V1 (by decide) [] _ fun x r _ h => ?_
  obtain ⟨l, v⟩ := x
  simp only [Prod.mk.injEq] at h
  obtain ⟨h1, rfl⟩ := h
  refine (r54 l v).trans ?_
  show _ = ob (ownV l v)
  unfold shutG at h1
  unfold ownV
  cases hv : v.1 with
  | true => rw [hv] at h1; simp only [cond_true] at h1; rw [h1]; rfl
  | false => rfl
def Γ56 : Orc := orc [(N27, s27), (N59, s59)]
def twoR (l : List Term.D) (a b : Value.D) : Bool := bif bif checkVR l a == 0 then mayV l b else false then a.1 == b.1 else false
theorem r56 (l : List Term.D) (a b : Value.D) : run Γ56 noL [] F56 (encA V3 (l, a, b)) [] = ob (twoR l a b) := by kernel_rfl
def s56 : Sp := .fn V3 fun x => (true, .one (.bool (twoR x.1 x.2.1 x.2.2)))
theorem g56 : GoodS Try.prog N56 s56 := by
  refine good (.cons g27 (.cons g59 (.nil _))) H56 rfl (by kernel_rfl) noL [] (noLoops (by kernel_rfl)) V3 (by decide) [] _ fun x r _ h => ?_
  cases h
  exact r56 x.1 x.2.1 x.2.2
theorem r52 (l : List Term.D) : run (orc []) noL [] F52 (encA [.v (.sl Term)] l) [.arr Term] = bif small24 l.length then some (.arr true Term l) else none := by kernel_rfl
def s52 : Sp := .fn [.v (.sl Term)] fun l => (small24 l.length, .arr true Term l)
theorem g52 : GoodS Try.prog N52 s52 := by
  refine good (.nil _) H52 rfl (by kernel_rfl) noL [] (noLoops (by kernel_rfl)) [.v (.sl Term)] (by decide) [.arr Term] _ fun l r _ h => ?_
  simp only [Prod.mk.injEq] at h
  obtain ⟨h1, rfl⟩ := h
  refine (r52 l).trans ?_
  rw [h1]; rfl
def Γ50 : Orc := orc [(N89, s89)]
def madeR (l : List Term.D) (t : Term.D) : Value.D × List Term.D × Int := bif (makeR l t).2.2 != 0 then (zeroV, [], (makeR l t).2.2) else (symV (makeR l t).1, (makeR l t).2.1, 0)
theorem r50 (l : List Term.D) (t : Term.D) : run Γ50 noL [] F50 (encA [.v (.sl Term), .v Term] (l, t)) wVle =
    bif (makeR l t).2.2 != 0 then some (vle (zeroV, [], (makeR l t).2.2)) else some (vle (symV (makeR l t).1, (makeR l t).2.1, 0)) := by kernel_rfl
def s50 : Sp := .fn [.v (.sl Term), .v Term] fun x => (true, vle (madeR x.1 x.2))
theorem g50 : GoodS Try.prog N50 s50 := by
  refine good (.cons g89 (.nil _)) H50 rfl (by kernel_rfl) noL [] (noLoops (by kernel_rfl)) [.v (.sl Term), .v Term] (by decide) wVle _ fun x r hw h => ?_
  cases h
  refine (r50 x.1 x.2).trans ?_
  simp only [madeR]
  cases (makeR x.1 x.2).2.2 != 0 <;> rfl
def Γ21 : Orc := orc [(N50, s50), (N51, s51), (N52, s52)]
def Γ23 : Orc := orc [(N27, s27), (N50, s50), (N52, s52), (N54, s54), (N55, s53)]
def Γ24 : Orc := orc [(N50, s50), (N52, s52), (N54, s54), (N56, s56), (N57, s46)]
def Γ25 : Orc := orc [(N54, s54), (N56, s56), (N58, s48)]
theorem checkVR_zero {l : List Term.D} {v : Value.D} : checkVR l v = 0 ↔ checkR l = 0 ∧ mayV l v = true := by
  unfold checkVR
  cases h1 : checkR l != 0 with
  | true => have : checkR l ≠ 0 := by simpa using h1
            simp [this]
  | false => have : checkR l = 0 := by simpa using h1
             cases h2 : mayV l v <;> simp [this]
theorem shut_ok {l : List Term.D} {v : Value.D} (h : mayV l v = true) : shutG l v = true := by
  unfold mayV at h
  unfold shutG
  cases hv : v.1 with
  | false => rfl
  | true =>
    rw [hv] at h
    simp only [cond_true] at h ⊢
    cases h1 : valEq v (symV v.2.2.2.2) with
    | false => rw [h1] at h; cases h
    | true =>
      rw [h1] at h
      cases h2 : decide (v.2.2.2.2 ≥ 0) with
      | false => rw [h2] at h; cases h
      | true =>
        rw [h2] at h
        unfold inB
        simp only [cond_true] at h
        rw [h, Bool.and_true]
        exact h2
theorem guard_ok {g b : Bool} (h : b = false → g = true) : (g || !boolBeq b false) = true := by
  cases b with
  | true => cases g <;> rfl
  | false => rw [h rfl]; rfl
theorem twoR_iff {l : List Term.D} {a b : Value.D} : twoR l a b = true ↔ checkR l = 0 ∧ mayV l a = true ∧ mayV l b = true ∧ a.1 = b.1 := by
  unfold twoR
  cases h1 : checkVR l a == 0 with
  | false =>
    have : ¬ checkVR l a = 0 := by simpa using h1
    rw [checkVR_zero] at this
    simp only [cond_false]
    constructor
    · intro h; cases h
    · intro ⟨g1, g2, _⟩; exact absurd ⟨g1, g2⟩ this
  | true =>
    have : checkVR l a = 0 := by simpa using h1
    obtain ⟨g1, g2⟩ := checkVR_zero.1 this
    simp only [cond_true, g1, g2, true_and]
    cases mayV l b <;> simp

/-! ### Atom, Part, Wrap, Unwrap -/
def atomR (l : List Term.D) (s : Bool) (n : Int) (b : Block.D) : Value.D × List Term.D × Int :=
  bif s then madeR l (1, n, 0) else bif checkR l != 0 then (zeroV, [], 1) else (octV b, l, 0)
@[reducible] def A4b : List AK := [.v (.sl Term), .v .bool, .v I, .v Block]
theorem r21 (l : List Term.D) (s : Bool) (n : Int) (b : Block.D) : run Γ21 noL [] F21 (encA A4b (l, s, n, b)) wVle =
    bif s then some (vle (madeR l (1, n, 0))) else bif checkR l != 0 then some (vle (zeroV, [], 1)) else bif small24 l.length then some (vle (octV b, l, 0)) else none := by kernel_rfl
def s21 : Sp := .fn A4b fun x => (true, vle (atomR x.1 x.2.1 x.2.2.1 x.2.2.2))
theorem g21 : GoodS Try.prog N21 s21 := by
  refine good (.cons g50 (.cons g51 (.cons g52 (.nil _)))) H21 rfl (by kernel_rfl) noL [] (noLoops (by kernel_rfl)) A4b (by decide) wVle _ fun x r hw h => ?_
  obtain ⟨l, s, n, b⟩ := x
  cases h
  refine (r21 l s n b).trans ?_
  simp only [atomR]
  cases s with
  | true => rfl
  | false =>
    cases h1 : checkR l != 0 with
    | true => rfl
    | false =>
      have : checkR l = 0 := by simpa using h1
      rw [small_of (checkR_len this)]; rfl
def partRBad (l : List Term.D) (v : Value.D) (i : Int) : Bool := bif bif bif checkVR l v != 0 then true else ownV l v then true else decide (i < 0) then true else decide (i > 2)
def partVR (l : List Term.D) (v : Value.D) (i : Int) : Value.D × List Term.D × Int :=
  bif partRBad l v i then (zeroV, [], 1) else bif v.1 then madeR l (IntKind.i64.wrap (2 + i), v.2.2.2.2, 0) else (octV (partR v.2.2.1 i).1, l, 0)
theorem r23 (l : List Term.D) (v : Value.D) (i : Int) : run Γ23 noL [] F23 (encA P3 (l, v, i)) wVle =
    bif shutG l v || !boolBeq (checkVR l v != 0) false then
      bif partRBad l v i then some (vle (zeroV, [], 1)) else bif v.1 then some (vle (madeR l (IntKind.i64.wrap (2 + i), v.2.2.2.2, 0))) else bif small24 l.length then some (vle (octV (partR v.2.2.1 i).1, l, 0)) else none
    else none := by kernel_rfl
def s23 : Sp := .fn P3 fun x => (true, vle (partVR x.1 x.2.1 x.2.2))
theorem g23 : GoodS Try.prog N23 s23 := by
  refine good (.cons g27 (.cons g50 (.cons g52 (.cons g54 (.cons g55 (.nil _)))))) H23 rfl (by kernel_rfl) noL [] (noLoops (by kernel_rfl)) P3 (by decide) wVle _ fun x r hw h => ?_
  obtain ⟨l, v, i⟩ := x
  cases h
  refine (r23 l v i).trans ?_
  rw [guard_ok (fun h => shut_ok (checkVR_zero.1 (by simpa using h)).2), cond_true]
  simp only [partVR]
  cases h0 : partRBad l v i with
  | true => rfl
  | false =>
    cases v.1 with
    | true => rfl
    | false =>
      unfold partRBad at h0
      cases h1 : checkVR l v != 0 with
      | true => rw [h1] at h0; cases h0
      | false =>
        have hz : checkVR l v = 0 := by simpa using h1
        rw [small_of (checkR_len (checkVR_zero.1 hz).1)]; rfl
def wrapRBad (l : List Term.D) (k v : Value.D) : Bool := bif bif !twoR l k v then true else ownV l k then true else ownV l v
def wrapVR (l : List Term.D) (k v : Value.D) : Value.D × List Term.D × Int :=
  bif wrapRBad l k v then (zeroV, [], 1) else bif k.1 then madeR l (5, k.2.2.2.2, v.2.2.2.2) else (sealV (wrapB k.2.2.1 v.2.2.1), l, 0)
theorem r24 (l : List Term.D) (k v : Value.D) : run Γ24 noL [] F24 (encA V3 (l, k, v)) wVle =
    bif shutG l k || !boolBeq (!twoR l k v) false then
      bif shutG l v || !boolBeq (bif !twoR l k v then true else ownV l k) false then
        bif wrapRBad l k v then some (vle (zeroV, [], 1)) else bif k.1 then some (vle (madeR l (5, k.2.2.2.2, v.2.2.2.2))) else bif small24 l.length then some (vle (sealV (wrapB k.2.2.1 v.2.2.1), l, 0)) else none
      else none
    else none := by kernel_rfl
def s24 : Sp := .fn V3 fun x => (true, vle (wrapVR x.1 x.2.1 x.2.2))
theorem two_shut1 {l : List Term.D} {k v : Value.D} : (shutG l k || !boolBeq (!twoR l k v) false) = true :=
  guard_ok fun h => shut_ok (twoR_iff.1 (by simpa using h)).2.1
theorem two_shut2 {l : List Term.D} {k v : Value.D} : (shutG l v || !boolBeq (bif !twoR l k v then true else ownV l k) false) = true :=
  guard_ok fun h => by
    cases h2 : twoR l k v with
    | false => rw [h2] at h; cases h
    | true => exact shut_ok (twoR_iff.1 h2).2.2.1
theorem g24 (g57 : GoodS Try.prog N57 s46) : GoodS Try.prog N24 s24 := by
  refine good (.cons g50 (.cons g52 (.cons g54 (.cons g56 (.cons g57 (.nil _)))))) H24 rfl (by kernel_rfl) noL [] (noLoops (by kernel_rfl)) V3 (by decide) wVle _ fun x r hw h => ?_
  obtain ⟨l, k, v⟩ := x
  cases h
  refine (r24 l k v).trans ?_
  rw [two_shut1, two_shut2, cond_true, cond_true]
  simp only [wrapVR]
  cases h0 : wrapRBad l k v with
  | true => rfl
  | false =>
    cases k.1 with
    | true => rfl
    | false =>
      unfold wrapRBad at h0
      cases h1 : twoR l k v with
      | false => rw [h1] at h0; cases h0
      | true => rw [small_of (checkR_len (twoR_iff.1 h1).1)]; rfl
def unwrapRBad (l : List Term.D) (k w : Value.D) : Bool := bif bif !twoR l k w then true else ownV l k then true else !ownV l w
def unwrapVR (l : List Term.D) (k w : Value.D) : Value.D × Int :=
  bif unwrapRBad l k w then (zeroV, 1) else
  bif k.1 then (bif (tAt l w.2.2.2.2).2.1 != k.2.2.2.2 then (zeroV, 7) else (symV (tAt l w.2.2.2.2).2.2, 0)) else
  bif (unwrapR k.2.2.1 w.2.2.2.1).2 != 0 then (zeroV, (unwrapR k.2.2.1 w.2.2.2.1).2) else (octV (unwrapR k.2.2.1 w.2.2.2.1).1, 0)
theorem r25 (l : List Term.D) (k w : Value.D) : run Γ25 noL [] F25 (encA V3 (l, k, w)) [] =
    bif shutG l k || !boolBeq (!twoR l k w) false then
      bif shutG l w || !boolBeq (bif !twoR l k w then true else ownV l k) false then
        bif unwrapRBad l k w then some (ve (zeroV, 1)) else
        bif k.1 then (bif inB w.2.2.2.2 l.length then (bif (tAt l w.2.2.2.2).2.1 != k.2.2.2.2 then some (ve (zeroV, 7)) else bif inB w.2.2.2.2 l.length then some (ve (symV (tAt l w.2.2.2.2).2.2, 0)) else none) else none) else
        bif (unwrapR k.2.2.1 w.2.2.2.1).2 != 0 then some (ve (zeroV, (unwrapR k.2.2.1 w.2.2.2.1).2)) else some (ve (octV (unwrapR k.2.2.1 w.2.2.2.1).1, 0))
      else none
    else none := by kernel_rfl
def s25 : Sp := .fn V3 fun x => (true, ve (unwrapVR x.1 x.2.1 x.2.2))
theorem g25 (g58 : GoodS Try.prog N58 s48) : GoodS Try.prog N25 s25 := by
  refine good (.cons g54 (.cons g56 (.cons g58 (.nil _)))) H25 rfl (by kernel_rfl) noL [] (noLoops (by kernel_rfl)) V3 (by decide) [] _ fun x r hw h => ?_
  obtain ⟨l, k, w⟩ := x
  cases h
  refine (r25 l k w).trans ?_
  rw [two_shut1, two_shut2, cond_true, cond_true]
  simp only [unwrapVR]
  cases h0 : unwrapRBad l k w with
  | true => rfl
  | false =>
    unfold unwrapRBad at h0
    cases h1 : twoR l k w with
    | false => rw [h1] at h0; cases h0
    | true =>
      obtain ⟨_, _, hm, he⟩ := twoR_iff.1 h1
      cases hk : k.1 with
      | true =>
        have hs := shut_ok hm
        unfold shutG at hs
        rw [← he, hk, cond_true] at hs
        rw [hs]
        cases (tAt l w.2.2.2.2).2.1 != k.2.2.2.2 <;> rfl
      | false => cases (unwrapR k.2.2.1 w.2.2.2.1).2 != 0 <;> rfl
end Go.AM.Seat
