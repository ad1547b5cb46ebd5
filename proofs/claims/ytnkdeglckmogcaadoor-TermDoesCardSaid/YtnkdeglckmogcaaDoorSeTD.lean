/- The law TermDoes: its run, and that it answers true. -/
import Derived.Test.YtnkdeglckmogcaaDoorSeLv6
import Derived.Test.YtnkdeglckmogcaaDoorSeT12
import Derived.Test.YtnkdeglckmogcaaDoorSeT16
import Derived.Test.YtnkdeglckmogcaaDoorPlTR
set_option linter.unusedVariables false
set_option maxRecDepth 100000
namespace Go.AM.Seat
open Go Go.AM Go.Proofs

theorem g51v : GoodS Tryd.prog N51 s49 := by
  have e : s51 = s49 := by
    unfold s51 s49
    congr 1
    funext x
    rw [checkR_eq]
  rw [← e]; exact g51
theorem g105v : GoodS Tryd.prog N105 s103 := by
  have e : s105 = s103 := by
    unfold s105 s103
    congr 1
    funext x
    rw [findR_eq]
  rw [← e]; exact g105
theorem g89v : GoodS Tryd.prog N89 s84 := by
  have e : s89 = s84 := by
    unfold s89 s84
    congr 1
    funext x
    rw [makeR_eq]
  rw [← e]; exact g89
def Γ504 : Orc := orc [(N508, sLive), (N103, s103), (N105, s103), (N84, s84io), (N89, s84), (N26, s26), (N49, s49), (N51, s49), (N516, s516)]
theorem Γ504ok : OrcOk Tryd.prog Γ504 := .cons g508 (.cons g103 (.cons g105v (.cons g84io (.cons g89v (.cons g26 (.cons g49 (.cons g51v (.cons g516 (.nil _)))))))))
abbrev live504 : List (Nat × Dir) := [(0, .keep), (7, .keep), (8, .keep), (14, .keep), (19, .keep), (99, .keep), (100, .keep), (32, .keep), (121, .keep)]
def bump (t : Term.D) : Term.D := (IntKind.i64.wrap (t.1 + 1), t.2)
def vs504 (l was m : List Term.D) (up okk : Bool) (n i : Int) : List AV :=
  [.one (.sl false Term none l), .one (.bool up), .one (.hot 32 none), .one (.hot 121 none), .one (.bool okk), .one (.int .i64 n), .one (.int .i64 i), .arr true Term was, .gho (.arr true Term m)]
def Λ504 : Lam AV := fun cur vs K =>
  match cur, vs with
  | 0, [.one (.sl false (.pair (.int .i64) (.pair (.int .i64) (.int .i64))) none l), .one (.bool up), .one (.hot 32 none), .one (.hot 121 none), .one (.bool okk), .one (.int .i64 n), .one (.int .i64 0),
      .arr true (.pair (.int .i64) (.pair (.int .i64) (.int .i64))) was, .gho (.arr true (.pair (.int .i64) (.pair (.int .i64) (.int .i64))) m)] =>
    bif decide (n = m.length) && decide (n ≤ 9223372036854775807) then K (.exit 0) (vs504 l was (m.map bump) up okk n n) else none
  | _, _ => none
theorem step504 (l was m : List Term.D) (up okk : Bool) (n i : Int) (K : AE → List AV → Option AV) (fuel : Nat) :
    loopN (aexec tb Γ504 Λ504 ⟨121, 1, [(0, live504)]⟩ (loop1 F504).2 0) 121 1 live504 K (fuel + 1) (vs504 l was m up okk n i) =
    bif decide (i < n) then
      bif inB i m.length then
        bif inB i m.length then loopN (aexec tb Γ504 Λ504 ⟨121, 1, [(0, live504)]⟩ (loop1 F504).2 0) 121 1 live504 K fuel (vs504 l was (m.set i.toNat (bump (tAt m i))) up okk n (IntKind.i64.wrap (i + 1)))
        else none
      else none
    else K (.exit 0) (vs504 l was m up okk n i) := by kernel_rfl
theorem bump_step (m : List Term.D) (j : Nat) (hj : j < m.length) : m.take j ++ (m.drop j).map bump = (m.set j (bump (tAt m j))).take (j + 1) ++ ((m.set j (bump (tAt m j))).drop (j + 1)).map bump := by
  have hA : (m.take j ++ [bump (tAt m j)]).length = j + 1 := by simp; omega
  have hs : m.set j (bump (tAt m j)) = (m.take j ++ [bump (tAt m j)]) ++ m.drop (j + 1) := by
    rw [List.set_eq_take_append_cons_drop, if_pos hj, List.append_assoc]; rfl
  rw [hs, List.take_left' hA, List.drop_left' hA, tAt_drop hj, List.map_cons, List.append_assoc]; rfl
theorem loop504 : LoopP tb Γ504 Λ504 ⟨121, 1, [(0, live504)]⟩ (loop1 F504) := by
  intro vs K out h
  have hcur : (loop1 F504).1 = 0 := by kernel_rfl
  rw [hcur] at h ⊢
  unfold Λ504 at h
  split at h
  · rename_i l up okk n was m _
    cases hc : (decide (n = m.length) && decide (n ≤ 9223372036854775807)) with
    | false => rw [hc] at h; cases h
    | true =>
      rw [hc] at h
      simp only [cond_true] at h
      simp only [Bool.and_eq_true, decide_eq_true_eq] at hc
      obtain ⟨rfl, hmax⟩ := hc
      obtain ⟨N, hN⟩ : ∃ N, N = m.length := ⟨_, rfl⟩
      rw [← hN] at h hmax ⊢
      refine upLoop (α := { m' : List Term.D // m'.length = N }) (n := N) (F := fun fuel m' i => loopN (aexec tb Γ504 Λ504 ⟨121, 1, [(0, live504)]⟩ (loop1 F504).2 0) 121 1 live504 K fuel (vs504 l was m'.1 up okk N i))
        (G := fun j m' => K (.exit 0) (vs504 l was (m'.1.take j ++ (m'.1.drop j).map bump) up okk N N)) (fun fuel m' => ?_) (fun m' j hj => ?_) N 0 ⟨m, hN.symm⟩ out (by omega) h
      · obtain ⟨m', hm⟩ := m'
        have e1 : m'.take N = m' := List.take_of_length_le (by omega)
        have e2 : m'.drop N = [] := List.drop_of_length_le (by omega)
        simp only [step504, nlt_dec, cond_false, e1, e2, List.map_nil, List.append_nil]
      · obtain ⟨m', hm⟩ := m'
        have hj' : j < m'.length := by omega
        left; refine ⟨⟨m'.set j (bump (tAt m' j)), by simpa using hm⟩, fun fuel => ?_, ?_⟩
        · simp only [step504, lt_dec hj, inB_lt hj', cond_true, Int.toNat_natCast]
          rw [wrap64 (by omega) (by omega)]; rfl
        · simp only [bump_step m' j hj']
  · cases h
def conjB : Bool → List Bool → Bool
  | b, [] => b
  | b, c :: r => conjB (bif b then c else false) r
def does (l o : List Term.D) (t : Term.D) : Bool :=
  conjB ((findL l t).1 == (findL l t).1) [(findL l t).2 == (findL l t).2, (makeL l t).1 == (makeL l t).1, sameL (makeL l t).2.1 (makeL l t).2.1, (makeL l t).2.2 == (makeL l t).2.2, checkL l == checkL l, sameL l o == sameL l o, sameL l l]
theorem r504 (l o : List Term.D) (t : Term.D) : runG Γ504 Λ504 1 [(0, live504)] F504 (encA [.v (.sl Term), .v (.sl Term), .v Term] (l, o, t)) [] =
    bif bif decide ((l.length : Int) > 300) then true else decide ((o.length : Int) > 300) then ob true else
    bif decide (l.length * 24 ≤ 140737488355328) then
      bif decide (((makeL l t).2.1.length : Int) = (makeL l t).2.1.length) && decide (((makeL l t).2.1.length : Int) ≤ 9223372036854775807) then ob (does l o t) else none
    else none := by kernel_rfl
theorem sameL_self' (l : List Term.D) : sameL l l = true := decide_eq_true rfl
theorem good504 (x : ADen [.v (.sl Term), .v (.sl Term), .v Term]) : Good Tryd.prog N504 (encA [.v (.sl Term), .v (.sl Term), .v Term] x) (.one (.bool true)) := by
  obtain ⟨l, o, t⟩ := x
  refine goodRunG Γ504ok H504 rfl Λ504 1 [(0, live504)] (oneLoop (p0 := loop1 F504) (by kernel_rfl) loop504) _ (by show 3 ≤ _; decide) [] ((r504 l o t).trans ?_)
  cases h1 : (bif decide ((l.length : Int) > 300) then true else decide ((o.length : Int) > 300)) with
  | true => rfl
  | false =>
    have hl : l.length ≤ 300 := by
      cases h2 : decide ((l.length : Int) > 300) with
      | true => rw [h2] at h1; cases h1
      | false => simp at h2; omega
    have hm := makeL_len l t
    rw [decide_eq_true (show l.length * 24 ≤ 140737488355328 by omega), len_max (show (makeL l t).2.1.length ≤ 9223372036854775807 by omega)]
    simp only [cond_true, cond_false, does, conjB, beq_self_eq_true, sameL_self', ob]
end Go.AM.Seat
