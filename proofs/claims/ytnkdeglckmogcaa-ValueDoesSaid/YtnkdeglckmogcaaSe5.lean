/- The seat: contracts: terms made, values. -/
import Derived.Test.YtnkdeglckmogcaaSe4
set_option linter.unusedVariables false
set_option maxRecDepth 100000
namespace Go.AM.Seat
open Go Go.AM Go.Proofs

/-! ### term.Check, Find, Make -/
def checkL (l : List Term.D) : Int := bif (ixL l).1 then 0 else 1
def Γ49 : Orc := orc [(N88, s88)]
theorem r49 (l : List Term.D) : run Γ49 noL [] F49 (encA [.v (.sl Term)] l) [] = bif !(ixL l).1 then some (.one (.int .i64 1)) else some (.one (.int .i64 0)) := by kernel_rfl
def s49 : Sp := .fn [.v (.sl Term)] fun l => (true, .one (.int .i64 (checkL l)))
theorem g49 : GoodS Try.prog N49 s49 := by
  refine good (.cons g88 (.nil _)) H49 rfl (by kernel_rfl) noL [] (noLoops (by kernel_rfl)) [.v (.sl Term)] (by decide) [] _ fun l r hw h => ?_
  cases h
  refine (r49 l).trans ?_
  unfold checkL
  cases (ixL l).1 <;> rfl
def findBad (l : List Term.D) (t : Term.D) : Bool := bif !(ixL l).1 then true else !mayB t l.length
def findL (l : List Term.D) (t : Term.D) : Int × Int :=
  bif findBad l t then (0, 1) else bif !mhas t (ixEnts l) then (0, 4) else (mgetD t (ixEnts l), 0)
def Γ103 : Orc := orc [(N88, s88), (N104, s104)]
theorem r103 (l : List Term.D) (t : Term.D) : run Γ103 noL [] F103 (encA [.v (.sl Term), .v Term] (l, t)) [] =
    bif findBad l t then some (.tup [(false, [.int .i64 0]), (false, [.int .i64 1])]) else
    bif !mhas t (ixEnts l) then some (.tup [(false, [.int .i64 0]), (false, [.int .i64 4])]) else some (.tup [(false, [.int .i64 (mgetD t (ixEnts l))]), (false, [.int .i64 0])]) := by kernel_rfl
def s103 : Sp := .fn [.v (.sl Term), .v Term] fun x => (true, .tup [(false, [.int .i64 (findL x.1 x.2).1]), (false, [.int .i64 (findL x.1 x.2).2])])
theorem g103 : GoodS Try.prog N103 s103 := by
  refine good (.cons g88 (.cons g104 (.nil _))) H103 rfl (by kernel_rfl) noL [] (noLoops (by kernel_rfl)) [.v (.sl Term), .v Term] (by decide) [] _ fun x r hw h => ?_
  obtain ⟨l, t⟩ := x
  cases h
  refine (r103 l t).trans ?_
  simp only [findL]
  cases findBad l t <;> cases !mhas t (ixEnts l) <;> rfl
def makeL (l : List Term.D) (t : Term.D) : Int × List Term.D × Int :=
  bif (findL l t).2 == 0 then ((findL l t).1, l, 0) else bif (findL l t).2 != 4 then (0, [], (findL l t).2) else bif (l.length : Int) == 65536 then (0, [], 6) else (l.length, l ++ [t], 0)
def Γ84 : Orc := orc [(N47, s47), (N103, s103)]
theorem r84 (l : List Term.D) (t : Term.D) : run Γ84 noL [] F84 (encA [.v (.sl Term), .v Term] (l, t)) [.id, .sl true Term, .id] =
    bif (findL l t).2 == 0 then (bif small24 l.length then some (.tup [(false, [.int .i64 (findL l t).1]), (false, [.sl true Term none l]), (false, [.int .i64 0])]) else none) else
    bif (findL l t).2 != 4 then some (.tup [(false, [.int .i64 0]), (false, [.sl true Term none []]), (false, [.int .i64 (findL l t).2])]) else
    bif (l.length : Int) == 65536 then some (.tup [(false, [.int .i64 0]), (false, [.sl true Term none []]), (false, [.int .i64 6])]) else
    bif small24 l.length then (bif decide ((l.length + [t].length) * 24 ≤ 140737488355328) then some (.tup [(false, [.int .i64 l.length]), (false, [.sl true Term none (l ++ [t])]), (false, [.int .i64 0])]) else none) else none := by kernel_rfl
theorem ixL_len {l : List Term.D} (h : (ixL l).1 = true) : l.length ≤ 65536 := by
  unfold ixL at h
  cases hd : decide ((l.length : Int) > 65536) with
  | true => rw [hd] at h; cases h
  | false => simp at hd; omega
theorem findL_ok {l : List Term.D} {t : Term.D} (h : (findL l t).2 = 0 ∨ (findL l t).2 = 4) : (ixL l).1 = true := by
  unfold findL findBad at h
  cases hq : (ixL l).1 with
  | true => rfl
  | false => rw [hq] at h; simp at h
theorem small_of {n : Nat} (h : n ≤ 65536) : small24 n = true := decide_eq_true (by omega)
def s84 : Sp := .fn [.v (.sl Term), .v Term] fun x => (true, .tup [(false, [.int .i64 (makeL x.1 x.2).1]), (false, [.sl true Term none (makeL x.1 x.2).2.1]), (false, [.int .i64 (makeL x.1 x.2).2.2])])
theorem g84 : GoodS Try.prog N84 s84 := by
  refine good (.cons g47 (.cons g103 (.nil _))) H84 rfl (by kernel_rfl) noL [] (noLoops (by kernel_rfl)) [.v (.sl Term), .v Term] (by decide) [.id, .sl true Term, .id] _ fun x r hw h => ?_
  obtain ⟨l, t⟩ := x
  cases h
  refine (r84 l t).trans ?_
  simp only [makeL]
  cases h0 : (findL l t).2 == 0 with
  | true =>
    rw [small_of (ixL_len (findL_ok (.inl (eq_of_beq h0))))]; rfl
  | false =>
    cases h4 : (findL l t).2 != 4 with
    | true => rfl
    | false =>
      have hl := ixL_len (findL_ok (.inr (by simpa using h4)))
      cases (l.length : Int) == 65536 with
      | true => rfl
      | false =>
        have : decide ((l.length + [t].length) * 24 ≤ 140737488355328) = true := decide_eq_true (by simp; omega)
        rw [small_of hl, this]; rfl

/-! ### values -/
def zeroV : Value.D := (false, false, (0, 0), ((0, 0), (0, 0)), 0)
def symV (i : Int) : Value.D := (true, false, (0, 0), ((0, 0), (0, 0)), i)
def sealV (s : Sealed.D) : Value.D := (false, true, (0, 0), s, 0)
def octV (b : Block.D) : Value.D := (false, false, b, ((0, 0), (0, 0)), 0)
def valEq (a b : Value.D) : Bool :=
  (a.1 == b.1) && ((a.2.1 == b.2.1) && ((a.2.2.1.1 == b.2.2.1.1) && ((a.2.2.1.2 == b.2.2.1.2) && ((a.2.2.2.1.1.1 == b.2.2.2.1.1.1) && ((a.2.2.2.1.1.2 == b.2.2.2.1.1.2) &&
    ((a.2.2.2.1.2.1 == b.2.2.2.1.2.1) && ((a.2.2.2.1.2.2 == b.2.2.2.1.2.2) && (a.2.2.2.2 == b.2.2.2.2))))))))
/-- A value, terms, and an error, as they are handed back. -/
def vle (x : Value.D × List Term.D × Int) : AV := .tup [(true, enc Value true x.1), (false, [.sl true Term none x.2.1]), (false, [.int .i64 x.2.2])]
abbrev wVle : List WK := [.id, .sl true Term, .id]
def Γ45 : Orc := orc [(N84, s84)]
def madeV (l : List Term.D) (t : Term.D) : Value.D × List Term.D × Int := bif (makeL l t).2.2 != 0 then (zeroV, [], (makeL l t).2.2) else (symV (makeL l t).1, (makeL l t).2.1, 0)
theorem r45 (l : List Term.D) (t : Term.D) : run Γ45 noL [] F45 (encA [.v (.sl Term), .v Term] (l, t)) wVle =
    bif (makeL l t).2.2 != 0 then some (vle (zeroV, [], (makeL l t).2.2)) else some (vle (symV (makeL l t).1, (makeL l t).2.1, 0)) := by kernel_rfl
def s45 : Sp := .fn [.v (.sl Term), .v Term] fun x => (true, vle (madeV x.1 x.2))
theorem g45 : GoodS Try.prog N45 s45 := by
  refine good (.cons g84 (.nil _)) H45 rfl (by kernel_rfl) noL [] (noLoops (by kernel_rfl)) [.v (.sl Term), .v Term] (by decide) wVle _ fun x r hw h => ?_
  cases h
  refine (r45 x.1 x.2).trans ?_
  simp only [madeV]
  cases (makeL x.1 x.2).2.2 != 0 <;> rfl

def Γ19 : Orc := orc [(N49, s49)]
def isSym (l : List Term.D) (v : Value.D) : Bool := bif bif v.1 then decide (v.2.2.2.2 ≥ 0) else false then decide (v.2.2.2.2 < (l.length : Int)) else false
def plainV (l : List Term.D) (v : Value.D) : Value.D := bif isSym l v then symV v.2.2.2.2 else bif v.2.1 then sealV v.2.2.2.1 else octV v.2.2.1
def checkV (l : List Term.D) (v : Value.D) : Int := bif bif checkL l == 0 then !valEq v (plainV l v) else false then 1 else checkL l
def fin19 (l : List Term.D) (v p : Value.D) : Option AV := bif bif checkL l == 0 then !valEq v p else false then some (.one (.int .i64 1)) else some (.one (.int .i64 (checkL l)))
theorem r19 (l : List Term.D) (v : Value.D) : run Γ19 noL [] F19 (encA [.v (.sl Term), .v Value] (l, v)) [] =
    bif isSym l v then fin19 l v (symV v.2.2.2.2) else bif v.2.1 then fin19 l v (sealV v.2.2.2.1) else fin19 l v (octV v.2.2.1) := by kernel_rfl
def s19 : Sp := .fn [.v (.sl Term), .v Value] fun x => (true, .one (.int .i64 (checkV x.1 x.2)))
theorem g19 : GoodS Try.prog N19 s19 := by
  refine good (.cons g49 (.nil _)) H19 rfl (by kernel_rfl) noL [] (noLoops (by kernel_rfl)) [.v (.sl Term), .v Value] (by decide) [] _ fun x r hw h => ?_
  obtain ⟨l, v⟩ := x
  cases h
  refine (r19 l v).trans ?_
  simp only [checkV, plainV, fin19]
  cases isSym l v <;> cases v.2.1 <;> simp only [cond_true, cond_false] <;> (cases bif checkL l == 0 then !valEq v _ else false) <;> rfl

end Go.AM.Seat
