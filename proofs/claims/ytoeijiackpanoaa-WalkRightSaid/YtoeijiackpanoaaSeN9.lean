/- The seat: contracts: the entry that leads to a key; the first one in which a leaf is. -/
import Derived.Test.YtoeijiackpanoaaSeN7
set_option linter.unusedVariables false
set_option maxRecDepth 100000
namespace Go.AM.Seat
open Go Go.AM Go.Proofs

/-! ### walk.Entry -/
def Γ309 : Orc := orc [(N310, s310), (N323, s323), (N318, s318), (N312, s312), (N324, s324), (N311, s311), (N325, s325)]
def ren (k : Int) (l : List Int) (e : Int) : AV := .tup [(false, [.int .i64 k]), (false, [.sl true I none l]), (false, [.int .i64 e])]
def noEn (h k i : Int) (s : Subset.D) : Bool := bif bif bif (pairsL h k i).2 != 0 then true else (leafI h i).2 != 0 then true else (mayI h k s).2 != 0 then true else !(mayI h k s).1
def atI (l : List Subset.D) (s : Subset.D) (sides : List Int) : Int × List Int × Int := bif decide (idxS s l 0 < 0) then (0, [], 4) else (idxS s l 0, sides, 0)
def fromJ (h i : Int) (s : Subset.D) : Int := (besI h (leafI h i).1 s.2).1
def entryI (h k i : Int) (s : Subset.D) : Int × List Int × Int := bif noEn h k i s then (0, [], 1) else bif (hasI h s i).2 != 0 then (0, [], (hasI h s i).2) else bif !(hasI h s i).1 then (0, [], 4) else
  bif s.2 != 0 then bif (besI h (leafI h i).1 s.2).2 != 0 then (0, [], (besI h (leafI h i).1 s.2).2) else bif (pathI h (fromJ h i s) s.2).2 != 0 then (0, [], (pathI h (fromJ h i s) s.2).2) else
    atI (pairsL h k i).1 (s.1, fromJ h i s) (pathI h (fromJ h i s) s.2).1
  else atI (pairsL h k i).1 s []
def reE (x : Int × List Int × Int) : AV := ren x.1 x.2.1 x.2.2
theorem r309 (h k i : Int) (s : Subset.D) : run Γ309 noL [] F309 (encA [.v I, .v I, .v U, .v Subset] (h, k, i, s)) [.id, .sl true I, .id] =
    bif noEn h k i s then some (ren 0 [] 1) else bif (hasI h s i).2 != 0 then some (ren 0 [] (hasI h s i).2) else bif !(hasI h s i).1 then some (ren 0 [] 4) else
    bif s.2 != 0 then bif (besI h (leafI h i).1 s.2).2 != 0 then some (ren 0 [] (besI h (leafI h i).1 s.2).2) else bif (pathI h (fromJ h i s) s.2).2 != 0 then some (ren 0 [] (pathI h (fromJ h i s) s.2).2) else
      bif decide (idxS (s.1, fromJ h i s) (pairsL h k i).1 0 < 0) then some (ren 0 [] 4) else some (ren (idxS (s.1, fromJ h i s) (pairsL h k i).1 0) (pathI h (fromJ h i s) s.2).1 0)
    else bif decide (idxS s (pairsL h k i).1 0 < 0) then some (ren 0 [] 4) else some (ren (idxS s (pairsL h k i).1 0) [] 0) := by kernel_rfl
def s309 : Sp := .fn [.v I, .v I, .v U, .v Subset] fun x => (true, reE (entryI x.1 x.2.1 x.2.2.1 x.2.2.2))
theorem g309 : GoodS Try.prog N309 s309 := by
  refine good (.cons g310 (.cons g323 (.cons g318 (.cons g312 (.cons g324 (.cons g311 (.cons g325 (.nil _)))))))) H309 rfl (by kernel_rfl) noL [] (noLoops (by kernel_rfl)) [.v I, .v I, .v U, .v Subset] (by decide) [.id, .sl true I, .id] _ fun x r hw e => ?_
  obtain ⟨h, k, i, s⟩ := x
  cases e
  refine (r309 h k i s).trans ?_
  show _ = some (reE (entryI h k i s))
  unfold entryI atI
  cases noEn h k i s with
  | true => rfl
  | false =>
    cases (hasI h s i).2 != 0 with
    | true => rfl
    | false =>
      cases (hasI h s i).1 with
      | false => rfl
      | true =>
        cases s.2 != 0 with
        | false => simp only [cond_false, Bool.not_true]; cases decide (idxS s (pairsL h k i).1 0 < 0) <;> rfl
        | true =>
          simp only [cond_true, cond_false, Bool.not_true]
          cases (besI h (leafI h i).1 s.2).2 != 0 with
          | true => rfl
          | false =>
            simp only [cond_false]
            cases (pathI h (fromJ h i s) s.2).2 != 0 with
            | true => rfl
            | false => simp only [cond_false]; cases decide (idxS (s.1, fromJ h i s) (pairsL h k i).1 0 < 0) <;> rfl

/-! ### SameInts -/
abbrev live31 : List (Nat × Dir) := [(0, .keep), (1, .keep), (4, .keep), (12, .keep), (13, .keep)]
def vs31 (a b : List Int) (r : Bool) (n i : Int) : List AV := [.one (.sl false I none a), .one (.sl false I none b), .one (.bool r), .one (.int .i64 n), .one (.int .i64 i)]
def iAt (l : List Int) (i : Int) : Int := l.getD i.toNat 0
theorem step31 (a b : List Int) (r : Bool) (n i : Int) (Λ : Lam AV) (fuel : Nat) (K : AE → List AV → Option AV) : loopN (aexec tb (orc []) Λ ⟨26, 0, [(0, live31)]⟩ (loopK F31 0).2 0) 26 0 live31 K (fuel + 1) (vs31 a b r n i) =
    bif decide (i < n) then bif inB i a.length then bif inB i b.length then
      bif iAt a i != iAt b i then K .ret (vs31 a b false n i)
      else loopN (aexec tb (orc []) Λ ⟨26, 0, [(0, live31)]⟩ (loopK F31 0).2 0) 26 0 live31 K fuel (vs31 a b r n (IntKind.i64.wrap (i + 1)))
    else none else none else K (.exit 0) (vs31 a b r n i) := by kernel_rfl
def cmpK (R : Nat → Option AV) (E : Option AV) (a b : List Int) : Nat → Nat → Option AV
  | 0, _ => E
  | m + 1, j => bif iAt a j != iAt b j then R j else cmpK R E a b m (j + 1)
def Λ31 : Lam AV := fun cur vs K =>
  match cur, vs with
  | 0, [.one (.sl false (.int .i64) none a), .one (.sl false (.int .i64) none b), .one (.bool r), .one (.int .i64 n), .one (.int .i64 0)] =>
    bif decide (n = a.length) && decide (n = b.length) && decide (n ≤ 9223372036854775807) then cmpK (fun j => K .ret (vs31 a b false n j)) (K (.exit 0) (vs31 a b r n n)) a b n.toNat 0 else none
  | _, _ => none
theorem loop31 : LoopP tb (orc []) Λ31 ⟨26, 0, [(0, live31)]⟩ (loopK F31 0) := by
  intro vs K out e
  have hcur : (loopK F31 0).1 = 0 := by kernel_rfl
  rw [hcur] at e ⊢
  unfold Λ31 at e
  split at e
  · rename_i a b r n _
    cases hc : (decide (n = a.length) && decide (n = b.length) && decide (n ≤ 9223372036854775807)) with
    | false => rw [hc] at e; cases e
    | true =>
      rw [hc] at e
      simp only [cond_true] at e
      simp only [Bool.and_eq_true, decide_eq_true_eq] at hc
      obtain ⟨⟨rfl, hb⟩, hmax⟩ := hc
      refine upLoop (α := Unit) (n := a.length) (F := fun fuel _ i => loopN (aexec tb (orc []) Λ31 ⟨26, 0, [(0, live31)]⟩ (loopK F31 0).2 0) 26 0 live31 K fuel (vs31 a b r a.length i))
        (G := fun j _ => cmpK (fun j => K .ret (vs31 a b false a.length j)) (K (.exit 0) (vs31 a b r a.length a.length)) a b (a.length - j) j)
        (fun fuel _ => ?_) (fun _ j hj => ?_) a.length 0 () out (by omega) e
      · simp only [step31, nlt_dec, cond_false, Nat.sub_self, cmpK]
      · have hm : a.length - j = (a.length - (j + 1)) + 1 := by omega
        have hjb : j < b.length := by omega
        cases hx : iAt a j != iAt b j with
        | true => right; intro fuel; simp only [step31, lt_dec hj, inB_lt hj, inB_lt hjb, hx, cond_true, hm, cmpK]
        | false =>
          left; refine ⟨(), fun fuel => ?_, ?_⟩
          · simp only [step31, lt_dec hj, inB_lt hj, inB_lt hjb, hx, cond_true, cond_false]
            rw [wrap64 (by omega) (by omega)]; rfl
          · simp only [hm, cmpK, hx, cond_false]
  · cases e
theorem r31 (a b : List Int) : run (orc []) Λ31 [(0, live31)] F31 (encA [.v (.sl I), .v (.sl I)] (a, b)) [] =
    bif (a.length : Int) != b.length then some (.one (.bool false)) else
    bif decide ((a.length : Int) = a.length) && decide ((a.length : Int) = b.length) && decide ((a.length : Int) ≤ 9223372036854775807) then
      cmpK (fun j => some (.one (.bool false))) (some (.one (.bool true))) a b (a.length : Int).toNat 0 else none := by kernel_rfl
def sameI (a b : List Int) : Bool := decide (a = b)
theorem cmpK_eq {a b : List Int} (X Y : AV) (hl : a.length = b.length) : ∀ (m j : Nat), j + m = a.length → cmpK (fun j => some X) (some Y) a b m j = some (bif decide (a.drop j = b.drop j) then Y else X) := by
  intro m
  induction m with
  | zero =>
    intro j hj
    rw [List.drop_of_length_le (by omega), List.drop_of_length_le (by omega)]
    rfl
  | succ m ih =>
    intro j hj
    have h1 : j < a.length := by omega
    have h2 : j < b.length := by omega
    rw [cmpK, ih (j + 1) (by omega), List.drop_eq_getElem_cons h1, List.drop_eq_getElem_cons h2]
    have e1 : iAt a j = a[j] := by simp [iAt, h1]
    have e2 : iAt b j = b[j] := by simp [iAt, h2]
    rw [e1, e2]
    by_cases he : a[j] = b[j]
    · rw [he, show (b[j] != b[j]) = false from bne_self_eq_false b[j]]
      rw [decide_eq_decide.2 (show a.drop (j + 1) = b.drop (j + 1) ↔ b[j] :: a.drop (j + 1) = b[j] :: b.drop (j + 1) by rw [List.cons.injEq]; exact ⟨fun h => ⟨rfl, h⟩, And.right⟩)]
      rfl
    · rw [show (a[j] != b[j]) = true by simpa using he, decide_eq_false (fun h => he (List.cons.inj h).1)]
      rfl
def s31 : Sp := .fn [.v (.sl I), .v (.sl I)] fun x => (true, .one (.bool (sameI x.1 x.2)))
theorem g31 : GoodS Try.prog N31 s31 := by
  refine good (.nil _) H31 rfl (by kernel_rfl) Λ31 [(0, live31)] (oneLoop (p0 := loopK F31 0) (by kernel_rfl) loop31) [.v (.sl I), .v (.sl I)] (by decide) [] _ fun x r hw e => ?_
  obtain ⟨a, b⟩ := x
  cases e
  refine (r31 a b).trans ?_
  show _ = some (AV.one (SV.bool (sameI a b)))
  by_cases hl : a.length = b.length
  · have h1 : ((a.length : Int) != b.length) = false := by simp [hl]
    have h2 : (decide ((a.length : Int) = a.length) && decide ((a.length : Int) = b.length) && decide ((a.length : Int) ≤ 9223372036854775807)) = true := by
      have : (a.length : Int) ≤ 9223372036854775807 := by have : a.length ≤ 9223372036854775807 := hw.1.1; omega
      simp [this]; omega
    rw [h1, h2]
    simp only [cond_false, cond_true, Int.toNat_natCast]
    rw [cmpK_eq _ _ hl _ _ (by omega)]
    unfold sameI
    simp only [List.drop_zero]
    cases decide (a = b) <;> rfl
  · have h1 : ((a.length : Int) != b.length) = true := by simp; omega
    rw [h1]
    have : sameI a b = false := decide_eq_false fun e => hl (by rw [e])
    rw [this]; rfl

/-! ### the chapter's example -/
def lv (x : Int × List Int × Int) : Bool := bif bif x.2.2 == 0 then x.1 == 1 else false then sameI x.2.1 [0] else false
theorem r308 : run (orc [(N309, s309), (N31, s31)]) noL [] F308 (encA [] ()) [] = some (.one (.bool (lv (entryI 2 2 0 (1, 6))))) := by kernel_rfl
theorem live_eq : entryI 2 2 0 (1, 6) = (1, [0], 0) := by kernel_rfl
def s308 : Sp := .fn [] fun _ => (true, .one (.bool true))
theorem g308 : GoodS Try.prog N308 s308 := by
  refine good (.cons g309 (.cons g31 (.nil _))) H308 rfl (by kernel_rfl) noL [] (noLoops (by kernel_rfl)) [] (by decide) [] _ fun x r hw e => ?_
  cases e
  refine r308.trans ?_
  rw [live_eq]; rfl
--CUT
end Go.AM.Seat
