/- The seat: contracts: terms by definition. -/
import Derived.Test.YtnkdeglckmogcaaSeT3
set_option linter.unusedVariables false
set_option maxRecDepth 100000
namespace Go.AM.Seat
open Go Go.AM Go.Proofs

/-! ### may -/
def a90 (t : Term.D) : Bool := bif bif decide (t.2.1 ≥ 0) then decide (t.2.1 ≤ 1048576) else false then t.2.2 == 0 else false
def b90 (t : Term.D) (i : Int) : Bool := bif bif decide (t.2.1 ≥ 0) then decide (t.2.1 < i) else false then t.2.2 == 0 else false
def c90 (t : Term.D) (i : Int) : Bool := bif bif bif decide (t.2.1 ≥ 0) then decide (t.2.1 < i) else false then decide (t.2.2 ≥ 0) else false then decide (t.2.2 < i) else false
def mayR (t : Term.D) (i : Int) : Bool := bif t.1 == 1 then a90 t else bif t.1 == 2 then b90 t i else bif t.1 == 3 then b90 t i else bif t.1 == 4 then b90 t i else bif t.1 == 5 then c90 t i else false
def ob (b : Bool) : Option AV := some (.one (.bool b))
theorem r90 (t : Term.D) (i : Int) : run (orc []) noL [] F90 (encA [.v Term, .v I] (t, i)) [] =
    bif t.1 == 1 then ob (a90 t) else bif t.1 == 2 then ob (b90 t i) else bif t.1 == 3 then ob (b90 t i) else bif t.1 == 4 then ob (b90 t i) else bif t.1 == 5 then ob (c90 t i) else ob false := by kernel_rfl
def s90 : Sp := .fn [.v Term, .v I] fun x => (true, .one (.bool (mayR x.1 x.2)))
theorem g90 : GoodS Try.prog N90 s90 := by
  refine good (.nil _) H90 rfl (by kernel_rfl) noL [] (noLoops (by kernel_rfl)) [.v Term, .v I] (by decide) [] _ fun x r _ h => ?_
  obtain ⟨t, i⟩ := x
  cases h
  rw [r90]
  show _ = ob (mayR t i)
  unfold mayR
  cases (t.1 == 1) <;> cases (t.1 == 2) <;> cases (t.1 == 3) <;> cases (t.1 == 4) <;> cases (t.1 == 5) <;> rfl

/-! ### place -/
def plGo (t : Term.D) : List Term.D → Int → Int
  | [], _ => -1
  | x :: xs, i => bif eqD Term x t then i else plGo t xs (i + 1)
abbrev live91 : List (Nat × Dir) := [(3, .keep), (4, .keep), (7, .keep), (8, .keep), (9, .keep)]
def vs91 (l : List Term.D) (t : Term.D) (r n i : Int) : List AV :=
  [.own [.int .i64 t.1, .int .i64 t.2.1, .int .i64 t.2.2], .one (.int .i64 r), .one (.sl false Term none l), .one (.int .i64 n), .one (.int .i64 i)]
def Λ91 : Lam AV := fun cur vs K =>
  match cur, vs with
  | 0, [.own [.int .i64 a, .int .i64 b, .int .i64 c], .one (.int .i64 0), .one (.sl false (.pair (.int .i64) (.pair (.int .i64) (.int .i64))) none l), .one (.int .i64 n), .one (.int .i64 0)] =>
    bif decide (n = l.length) && decide (n ≤ 9223372036854775807) then
      bif decide (plGo (a, b, c) l 0 < 0) then K (.exit 0) (vs91 l (a, b, c) 0 n n) else K .ret (vs91 l (a, b, c) (plGo (a, b, c) l 0) n (plGo (a, b, c) l 0))
    else none
  | _, _ => none

theorem tAt_drop {l : List Term.D} {j : Nat} (h : j < l.length) : l.drop j = tAt l j :: l.drop (j + 1) := by
  rw [List.drop_eq_getElem_cons h]
  simp [tAt, h]

theorem step91 (l : List Term.D) (t : Term.D) (r n i : Int) (K : AE → List AV → Option AV) (fuel : Nat) :
    loopN (aexec tb (orc []) Λ91 ⟨19, 0, [(0, live91)]⟩ (loop1 F91).2 0) 19 0 live91 K (fuel + 1) (vs91 l t r n i) =
    bif decide (i < n) then
      bif inB i l.length then
        bif eqD Term (tAt l i) t then K .ret (vs91 l t i n i)
        else loopN (aexec tb (orc []) Λ91 ⟨19, 0, [(0, live91)]⟩ (loop1 F91).2 0) 19 0 live91 K fuel (vs91 l t r n (IntKind.i64.wrap (i + 1)))
      else none
    else K (.exit 0) (vs91 l t r n i) := by kernel_rfl
theorem plGo_ge (t : Term.D) : ∀ (xs : List Term.D) (i : Int), plGo t xs i = -1 ∨ i ≤ plGo t xs i := by
  intro xs
  induction xs with
  | nil => intro i; exact .inl rfl
  | cons x xs ih =>
    intro i
    simp only [plGo]
    cases eqD Term x t with
    | true => exact .inr (Int.le_refl i)
    | false => rcases ih (i + 1) with h | h
               · exact .inl h
               · exact .inr (by simp only [cond_false]; omega)
theorem loop91 : LoopP tb (orc []) Λ91 ⟨19, 0, [(0, live91)]⟩ (loop1 F91) := by
  intro vs K out h
  have hcur : (loop1 F91).1 = 0 := by kernel_rfl
  rw [hcur] at h ⊢
  unfold Λ91 at h
  split at h
  · rename_i a b c l n _
    cases hc : (decide (n = l.length) && decide (n ≤ 9223372036854775807)) with
    | false => rw [hc] at h; cases h
    | true =>
      rw [hc] at h
      simp only [cond_true] at h
      simp only [Bool.and_eq_true, decide_eq_true_eq] at hc
      obtain ⟨rfl, hmax⟩ := hc
      refine upLoop (α := Unit) (n := l.length) (F := fun fuel _ i => loopN (aexec tb (orc []) Λ91 ⟨19, 0, [(0, live91)]⟩ (loop1 F91).2 0) 19 0 live91 K fuel (vs91 l (a, b, c) 0 l.length i))
        (G := fun j _ => bif decide (plGo (a, b, c) (l.drop j) j < 0) then K (.exit 0) (vs91 l (a, b, c) 0 l.length l.length) else K .ret (vs91 l (a, b, c) (plGo (a, b, c) (l.drop j) j) l.length (plGo (a, b, c) (l.drop j) j)))
        (fun fuel _ => ?_) (fun _ j hj => ?_) l.length 0 () out (by omega) h
      · simp only [step91, nlt_dec, cond_false, List.drop_length, plGo]; rfl
      · cases hx : eqD Term (tAt l j) (a, b, c) with
        | true =>
          right; intro fuel
          have h0 : decide ((j : Int) < 0) = false := by simp
          simp only [step91, lt_dec hj, inB_lt hj, hx, cond_true, cond_false, tAt_drop hj, plGo, h0]
        | false =>
          left; refine ⟨(), fun fuel => ?_, ?_⟩
          · simp only [step91, lt_dec hj, inB_lt hj, hx, cond_true, cond_false]
            rw [wrap64 (by omega) (by omega)]; rfl
          · simp only [tAt_drop hj, plGo, hx, cond_false]; rfl
  · cases h
theorem r91 (l : List Term.D) (t : Term.D) : run (orc []) Λ91 [(0, live91)] F91 (encA [.v (.sl Term), .v Term] (l, t)) [] =
    bif decide ((l.length : Int) = l.length) && decide ((l.length : Int) ≤ 9223372036854775807) then
      bif decide (plGo t l 0 < 0) then some (.one (.int .i64 (-1))) else some (.one (.int .i64 (plGo t l 0)))
    else none := by kernel_rfl
def s91 : Sp := .fn [.v (.sl Term), .v Term] fun x => (true, .one (.int .i64 (plGo x.2 x.1 0)))
theorem len_max {l : List Term.D} (hw : l.length ≤ 9223372036854775807) : (decide ((l.length : Int) = l.length) && decide ((l.length : Int) ≤ 9223372036854775807)) = true := by
  have hmax : (l.length : Int) ≤ 9223372036854775807 := by omega
  simp [hmax]
theorem g91 : GoodS Try.prog N91 s91 := by
  refine good (.nil _) H91 rfl (by kernel_rfl) Λ91 [(0, live91)] (oneLoop (p0 := loop1 F91) (by kernel_rfl) loop91) [.v (.sl Term), .v Term] (by decide) [] _ fun x r hw h => ?_
  obtain ⟨l, t⟩ := x
  cases h
  refine (r91 l t).trans ?_
  rw [len_max hw.1.1, cond_true]
  rcases plGo_ge t l 0 with h | h
  · rw [h]; rfl
  · have : decide (plGo t l 0 < 0) = false := by simpa using h
    rw [this]; rfl

/-! ### Check -/
def ckBad (l : List Term.D) (t : Term.D) (i : Int) : Bool := bif !mayR t i then true else decide (plGo t (l.take i.toNat) 0 ≥ 0)
def ckGo (l : List Term.D) : List Term.D → Int → Bool
  | [], _ => true
  | t :: r, i => bif ckBad l t i then false else ckGo l r (i + 1)
/-- Where that stops. -/
def ckAt (l : List Term.D) : List Term.D → Int → Int
  | [], i => i
  | t :: r, i => bif ckBad l t i then i else ckAt l r (i + 1)
abbrev live51 : List (Nat × Dir) := [(0, .keep), (2, .keep), (8, .keep), (9, .keep), (10, .keep)]
def Γ51 : Orc := orc [(N90, s90), (N91, s91)]
def vs51 (l l2 : List Term.D) (r n i : Int) : List AV :=
  [.one (.sl false Term none l), .one (.int .i64 r), .one (.sl false Term none l2), .one (.int .i64 n), .one (.int .i64 i)]
def Λ51 : Lam AV := fun cur vs K =>
  match cur, vs with
  | 0, [.one (.sl false (.pair (.int .i64) (.pair (.int .i64) (.int .i64))) none l), .one (.int .i64 0), .one (.sl false (.pair (.int .i64) (.pair (.int .i64) (.int .i64))) none l2), .one (.int .i64 n), .one (.int .i64 0)] =>
    bif decide (n = l2.length) && decide (n ≤ 9223372036854775807) && decide (l.length = l2.length) then
      bif ckGo l l2 0 then K (.exit 0) (vs51 l l2 0 n n) else K .ret (vs51 l l2 1 n (ckAt l l2 0))
    else none
  | _, _ => none
def inSl (i : Int) (n : Nat) : Bool := decide (0 ≤ i) && decide (i ≤ (n : Int))
theorem inSl_lt {j n : Nat} (h : j ≤ n) : inSl (j : Int) n = true := by simp [inSl]; omega
theorem step51 (l l2 : List Term.D) (r n i : Int) (K : AE → List AV → Option AV) (fuel : Nat) :
    loopN (aexec tb Γ51 Λ51 ⟨28, 0, [(0, live51)]⟩ (loop1 F51).2 0) 28 0 live51 K (fuel + 1) (vs51 l l2 r n i) =
    bif decide (i < n) then
      bif inB i l2.length then
        bif !mayR (tAt l2 i) i then K .ret (vs51 l l2 1 n i)
        else bif inSl i l.length then
          bif decide (plGo (tAt l2 i) (l.take i.toNat) 0 ≥ 0) then K .ret (vs51 l l2 1 n i)
          else loopN (aexec tb Γ51 Λ51 ⟨28, 0, [(0, live51)]⟩ (loop1 F51).2 0) 28 0 live51 K fuel (vs51 l l2 r n (IntKind.i64.wrap (i + 1)))
        else none
      else none
    else K (.exit 0) (vs51 l l2 r n i) := by kernel_rfl
theorem loop51 : LoopP tb Γ51 Λ51 ⟨28, 0, [(0, live51)]⟩ (loop1 F51) := by
  intro vs K out h
  have hcur : (loop1 F51).1 = 0 := by kernel_rfl
  rw [hcur] at h ⊢
  unfold Λ51 at h
  split at h
  · rename_i l l2 n _
    cases hc : (decide (n = l2.length) && decide (n ≤ 9223372036854775807) && decide (l.length = l2.length)) with
    | false => rw [hc] at h; cases h
    | true =>
      rw [hc] at h
      simp only [cond_true] at h
      simp only [Bool.and_eq_true, decide_eq_true_eq] at hc
      obtain ⟨⟨rfl, hmax⟩, hl⟩ := hc
      refine upLoop (α := Unit) (n := l2.length) (F := fun fuel _ i => loopN (aexec tb Γ51 Λ51 ⟨28, 0, [(0, live51)]⟩ (loop1 F51).2 0) 28 0 live51 K fuel (vs51 l l2 0 l2.length i))
        (G := fun j _ => bif ckGo l (l2.drop j) j then K (.exit 0) (vs51 l l2 0 l2.length l2.length) else K .ret (vs51 l l2 1 l2.length (ckAt l (l2.drop j) j)))
        (fun fuel _ => ?_) (fun _ j hj => ?_) l2.length 0 () out (by omega) h
      · simp only [step51, nlt_dec, cond_false, List.drop_length, ckGo, cond_true]
      · have hs : inSl (j : Int) l.length = true := inSl_lt (by omega)
        cases h1 : !mayR (tAt l2 j) j with
        | true =>
          right; intro fuel
          simp only [step51, lt_dec hj, inB_lt hj, h1, cond_true, cond_false, tAt_drop hj, ckGo, ckAt, ckBad]
        | false =>
          cases h2 : decide (plGo (tAt l2 j) (l.take (j : Int).toNat) 0 ≥ 0) with
          | true =>
            right; intro fuel
            simp only [step51, lt_dec hj, inB_lt hj, h1, hs, h2, cond_true, cond_false, tAt_drop hj, ckGo, ckAt, ckBad]
          | false =>
            left; refine ⟨(), fun fuel => ?_, ?_⟩
            · simp only [step51, lt_dec hj, inB_lt hj, h1, hs, h2, cond_true, cond_false]
              rw [wrap64 (by omega) (by omega)]; rfl
            · simp only [tAt_drop hj, ckGo, ckAt, ckBad, h1, h2, cond_false]; rfl
  · cases h
theorem r51 (l : List Term.D) : run Γ51 Λ51 [(0, live51)] F51 (encA [.v (.sl Term)] l) [] =
    bif decide ((l.length : Int) > 65536) then some (.one (.int .i64 1)) else
    bif decide ((l.length : Int) = l.length) && decide ((l.length : Int) ≤ 9223372036854775807) && decide (l.length = l.length) then
      bif ckGo l l 0 then some (.one (.int .i64 0)) else some (.one (.int .i64 1))
    else none := by kernel_rfl
def checkR (l : List Term.D) : Int := bif decide ((l.length : Int) > 65536) then 1 else bif ckGo l l 0 then 0 else 1
def s51 : Sp := .fn [.v (.sl Term)] fun l => (true, .one (.int .i64 (checkR l)))
theorem g51 : GoodS Try.prog N51 s51 := by
  refine good (.cons g90 (.cons g91 (.nil _))) H51 rfl (by kernel_rfl) Λ51 [(0, live51)] (oneLoop (p0 := loop1 F51) (by kernel_rfl) loop51) [.v (.sl Term)] (by decide) [] _ fun l r hw h => ?_
  cases h
  refine (r51 l).trans ?_
  rw [len_max hw.1, decide_eq_true (rfl : l.length = l.length)]
  simp only [Bool.and_self, cond_true, checkR]
  cases decide ((l.length : Int) > 65536) <;> cases ckGo l l 0 <;> rfl

/-! ### Find, Make -/
def findRBad (l : List Term.D) (t : Term.D) : Bool := bif checkR l != 0 then true else !mayR t l.length
def findR (l : List Term.D) (t : Term.D) : Int × Int := bif findRBad l t then (0, 1) else bif decide (plGo t l 0 < 0) then (0, 4) else (plGo t l 0, 0)
def Γ105 : Orc := orc [(N51, s51), (N90, s90), (N91, s91)]
theorem r105 (l : List Term.D) (t : Term.D) : run Γ105 noL [] F105 (encA [.v (.sl Term), .v Term] (l, t)) [] =
    bif findRBad l t then some (.tup [(false, [.int .i64 0]), (false, [.int .i64 1])]) else
    bif decide (plGo t l 0 < 0) then some (.tup [(false, [.int .i64 0]), (false, [.int .i64 4])]) else some (.tup [(false, [.int .i64 (plGo t l 0)]), (false, [.int .i64 0])]) := by kernel_rfl
def s105 : Sp := .fn [.v (.sl Term), .v Term] fun x => (true, .tup [(false, [.int .i64 (findR x.1 x.2).1]), (false, [.int .i64 (findR x.1 x.2).2])])
theorem g105 : GoodS Try.prog N105 s105 := by
  refine good (.cons g51 (.cons g90 (.cons g91 (.nil _)))) H105 rfl (by kernel_rfl) noL [] (noLoops (by kernel_rfl)) [.v (.sl Term), .v Term] (by decide) [] _ fun x r hw h => ?_
  obtain ⟨l, t⟩ := x
  cases h
  refine (r105 l t).trans ?_
  simp only [findR]
  cases findRBad l t <;> cases decide (plGo t l 0 < 0) <;> rfl
def Γ89 : Orc := orc [(N105, s105)]
def o89 (l : List Term.D) (t : Term.D) : Option AV := bif small24 l.length then (bif decide ((l.length + [t].length) * 24 ≤ 140737488355328) then some (.tup [(false, [.int .i64 l.length]), (false, [.sl true Term none (l ++ [t])]), (false, [.int .i64 0])]) else none) else none
def makeR (l : List Term.D) (t : Term.D) : Int × List Term.D × Int :=
  bif (findR l t).2 == 1 then (0, [], (findR l t).2) else bif (findR l t).2 == 0 then ((findR l t).1, l, 0) else bif (l.length : Int) == 65536 then (0, [], 6) else (l.length, l ++ [t], 0)
theorem r89 (l : List Term.D) (t : Term.D) : run Γ89 noL [] F89 (encA [.v (.sl Term), .v Term] (l, t)) [.id, .sl true Term, .id] =
    bif (findR l t).2 == 1 then some (.tup [(false, [.int .i64 0]), (false, [.sl true Term none []]), (false, [.int .i64 (findR l t).2])]) else
    bif (findR l t).2 == 0 then (bif small24 l.length then some (.tup [(false, [.int .i64 (findR l t).1]), (false, [.sl true Term none l]), (false, [.int .i64 0])]) else none) else
    bif (l.length : Int) == 65536 then some (.tup [(false, [.int .i64 0]), (false, [.sl true Term none []]), (false, [.int .i64 6])]) else
    allSame [o89 l t, o89 l t, o89 l t] := by kernel_rfl
theorem checkR_len {l : List Term.D} (h : checkR l = 0) : l.length ≤ 65536 := by
  unfold checkR at h
  cases hd : decide ((l.length : Int) > 65536) with
  | true => rw [hd] at h; simp at h
  | false => simp at hd; omega
theorem findR_cases (l : List Term.D) (t : Term.D) : (findR l t).2 = 1 ∨ (l.length ≤ 65536 ∧ ((findR l t).2 = 0 ∨ (findR l t).2 = 4)) := by
  unfold findR findRBad
  cases h : checkR l != 0 with
  | true => exact .inl rfl
  | false =>
    have h0 : checkR l = 0 := by simpa using h
    have := checkR_len h0
    simp only [cond_false]
    cases mayR t l.length with
    | false => exact .inl rfl
    | true =>
      refine .inr ⟨this, ?_⟩
      cases decide (plGo t l 0 < 0)
      · exact .inl rfl
      · exact .inr rfl
def s89 : Sp := .fn [.v (.sl Term), .v Term] fun x => (true, .tup [(false, [.int .i64 (makeR x.1 x.2).1]), (false, [.sl true Term none (makeR x.1 x.2).2.1]), (false, [.int .i64 (makeR x.1 x.2).2.2])])
theorem g89 : GoodS Try.prog N89 s89 := by
  refine good (.cons g105 (.nil _)) H89 rfl (by kernel_rfl) noL [] (noLoops (by kernel_rfl)) [.v (.sl Term), .v Term] (by decide) [.id, .sl true Term, .id] _ fun x r hw h => ?_
  obtain ⟨l, t⟩ := x
  cases h
  refine (r89 l t).trans ?_
  simp only [makeR]
  rcases findR_cases l t with h1 | ⟨hl, h1⟩
  · rw [h1]; rfl
  · have hs := small_of hl
    have hs2 : decide ((l.length + [t].length) * 24 ≤ 140737488355328) = true := decide_eq_true (by simp; omega)
    rcases h1 with h1 | h1 <;> rw [h1]
    · rw [hs]; rfl
    · cases (l.length : Int) == 65536 with
      | true => rfl
      | false =>
        have : o89 l t = some (.tup [(false, [.int .i64 l.length]), (false, [.sl true Term none (l ++ [t])]), (false, [.int .i64 0])]) := by unfold o89; rw [hs, hs2]; rfl
        rw [this]
        exact allSame_rep _ 2

/-! ### Same -/
abbrev live26 : List (Nat × Dir) := [(0, .keep), (1, .keep), (4, .keep), (12, .keep), (13, .keep)]
def vs26 (a b : List Term.D) (r : Bool) (n i : Int) : List AV :=
  [.one (.sl false Term none a), .one (.sl false Term none b), .one (.bool r), .one (.int .i64 n), .one (.int .i64 i)]
def eqGo : List Term.D → List Term.D → Bool
  | a :: l, b :: m => bif eqD Term a b then eqGo l m else false
  | _, _ => true
/-- Where that stops. -/
def eqAt : List Term.D → List Term.D → Int → Int
  | a :: l, b :: m, i => bif eqD Term a b then eqAt l m (i + 1) else i
  | _, _, i => i
def Λ26 : Lam AV := fun cur vs K =>
  match cur, vs with
  | 0, [.one (.sl false (.pair (.int .i64) (.pair (.int .i64) (.int .i64))) none a), .one (.sl false (.pair (.int .i64) (.pair (.int .i64) (.int .i64))) none b), .one (.bool false), .one (.int .i64 n), .one (.int .i64 0)] =>
    bif decide (n = a.length) && decide (n ≤ 9223372036854775807) && decide (a.length = b.length) then
      bif eqGo a b then K (.exit 0) (vs26 a b false n n) else K .ret (vs26 a b false n (eqAt a b 0))
    else none
  | _, _ => none
theorem step26 (a b : List Term.D) (r : Bool) (n i : Int) (K : AE → List AV → Option AV) (fuel : Nat) :
    loopN (aexec tb (orc []) Λ26 ⟨26, 0, [(0, live26)]⟩ (loop1 F26).2 0) 26 0 live26 K (fuel + 1) (vs26 a b r n i) =
    bif decide (i < n) then
      bif inB i a.length then
        bif inB i b.length then
          bif !eqD Term (tAt a i) (tAt b i) then K .ret (vs26 a b false n i)
          else loopN (aexec tb (orc []) Λ26 ⟨26, 0, [(0, live26)]⟩ (loop1 F26).2 0) 26 0 live26 K fuel (vs26 a b r n (IntKind.i64.wrap (i + 1)))
        else none
      else none
    else K (.exit 0) (vs26 a b r n i) := by kernel_rfl
theorem loop26 : LoopP tb (orc []) Λ26 ⟨26, 0, [(0, live26)]⟩ (loop1 F26) := by
  intro vs K out h
  have hcur : (loop1 F26).1 = 0 := by kernel_rfl
  rw [hcur] at h ⊢
  unfold Λ26 at h
  split at h
  · rename_i a b n _
    cases hc : (decide (n = a.length) && decide (n ≤ 9223372036854775807) && decide (a.length = b.length)) with
    | false => rw [hc] at h; cases h
    | true =>
      rw [hc] at h
      simp only [cond_true] at h
      simp only [Bool.and_eq_true, decide_eq_true_eq] at hc
      obtain ⟨⟨rfl, hmax⟩, hl⟩ := hc
      refine upLoop (α := Unit) (n := a.length) (F := fun fuel _ i => loopN (aexec tb (orc []) Λ26 ⟨26, 0, [(0, live26)]⟩ (loop1 F26).2 0) 26 0 live26 K fuel (vs26 a b false a.length i))
        (G := fun j _ => bif eqGo (a.drop j) (b.drop j) then K (.exit 0) (vs26 a b false a.length a.length) else K .ret (vs26 a b false a.length (eqAt (a.drop j) (b.drop j) j)))
        (fun fuel _ => ?_) (fun _ j hj => ?_) a.length 0 () out (by omega) h
      · have e : eqGo (a.drop a.length) (b.drop a.length) = true := by simp [eqGo]
        simp only [step26, nlt_dec, cond_false, e, cond_true]
      · have hj' : j < b.length := by omega
        cases h1 : eqD Term (tAt a j) (tAt b j) with
        | false =>
          right; intro fuel
          simp only [step26, lt_dec hj, inB_lt hj, inB_lt hj', h1, cond_true, cond_false, tAt_drop hj, tAt_drop hj', eqGo, eqAt, Bool.not_false]
        | true =>
          left; refine ⟨(), fun fuel => ?_, ?_⟩
          · simp only [step26, lt_dec hj, inB_lt hj, inB_lt hj', h1, cond_true, cond_false, Bool.not_true]
            rw [wrap64 (by omega) (by omega)]; rfl
          · simp only [tAt_drop hj, tAt_drop hj', eqGo, eqAt, h1, cond_true]; rfl
  · cases h
theorem r26 (a b : List Term.D) : run (orc []) Λ26 [(0, live26)] F26 (encA [.v (.sl Term), .v (.sl Term)] (a, b)) [] =
    bif (a.length : Int) != b.length then ob false else
    bif decide ((a.length : Int) = a.length) && decide ((a.length : Int) ≤ 9223372036854775807) && decide (a.length = b.length) then
      bif eqGo a b then ob true else ob false
    else none := by kernel_rfl
theorem eqTD {a b : Term.D} : eqD Term a b = true ↔ a = b := by
  obtain ⟨a1, a2, a3⟩ := a
  obtain ⟨b1, b2, b3⟩ := b
  simp [eqD]
theorem eqGo_iff : ∀ {a b : List Term.D}, a.length = b.length → (eqGo a b = true ↔ a = b)
  | [], [], _ => by simp [eqGo]
  | a :: l, b :: m, h => by
    simp only [eqGo, List.cons.injEq]
    cases hq : eqD Term a b with
    | true => simp only [cond_true, eqGo_iff (show l.length = m.length by simpa using h), eqTD.1 hq, true_and]
    | false =>
      have : ¬ a = b := fun e => by rw [eqTD.2 e] at hq; cases hq
      simp [this]
  | [], _ :: _, h => by simp at h
  | _ :: _, [], h => by simp at h
def sameL (a b : List Term.D) : Bool := decide (a = b)
def s26 : Sp := .fn [.v (.sl Term), .v (.sl Term)] fun x => (true, .one (.bool (sameL x.1 x.2)))
theorem g26 : GoodS Try.prog N26 s26 := by
  refine good (.nil _) H26 rfl (by kernel_rfl) Λ26 [(0, live26)] (oneLoop (p0 := loop1 F26) (by kernel_rfl) loop26) [.v (.sl Term), .v (.sl Term)] (by decide) [] _ fun x r hw h => ?_
  obtain ⟨a, b⟩ := x
  cases h
  refine (r26 a b).trans ?_
  show _ = ob (sameL a b)
  unfold sameL
  cases hl : (a.length : Int) != b.length with
  | true =>
    have hne : a ≠ b := fun e => by subst e; simp at hl
    rw [decide_eq_false hne]; rfl
  | false =>
    have hl : a.length = b.length := by simp at hl; omega
    rw [len_max hw.1.1, decide_eq_true hl]
    simp only [Bool.and_self, cond_true, cond_false]
    cases hq : eqGo a b with
    | true => rw [decide_eq_true ((eqGo_iff hl).1 hq)]; rfl
    | false => rw [decide_eq_false (fun e => by rw [(eqGo_iff hl).2 e] at hq; cases hq)]; rfl
end Go.AM.Seat
