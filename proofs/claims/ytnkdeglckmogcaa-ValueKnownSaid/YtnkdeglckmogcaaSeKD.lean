/- know.All, Knows, Why, Shut, Is. -/
import Derived.Test.YtnkdeglckmogcaaSeKS
import Derived.Test.YtnkdeglckmogcaaSeKC
import Derived.Test.YtnkdeglckmogcaaSeWi
import Derived.Test.YtnkdeglckmogcaaSeBs
set_option linter.unusedVariables false
set_option linter.unusedSimpArgs false
set_option maxRecDepth 100000
namespace Go.AM.Seat
open Go Go.AM Go.Proofs
def s65t : Sp := .io fun a p gs => match a, p, gs with
  | [.one (.hot 0 none)], 1, [.arr false (.int .i64) l] => some (decide (l.length ≤ 1000000), .tup [], [.arr true I (sortI l)])
  | _, _, _ => none
theorem g65t : GoodS Try.prog N65 s65t := by
  refine GoodS.io (callable_of H65 (bd rfl) (by kernel_rfl)) fun a p gs r gs' hw1 hw2 h => ?_
  clear hw1 hw2
  split at h
  · rename_i l
    simp only [Option.some.injEq, Prod.mk.injEq, decide_eq_true_eq] at h
    obtain ⟨hs, rfl, rfl⟩ := h
    exact (nSo ▸ sort_io laySo l hs : GoodIO Try.prog N65 _ _ _ _ _).tight (fun fr t xs hm => by
      rcases List.mem_cons.1 hm with e | hm
      · cases e; exact .inl rfl
      · cases hm)
  · cases h
noncomputable def Γ30 : Orc := orcL 31 [(N61, s61), (N62, s62), (N63, s63), (N64, s64), (N65, s65t)]
theorem Γ30ok : OrcOk Try.prog Γ30 := OrcOk.toL 31 (.cons g61 (.cons g62 (.cons g63 (.cons g64 (.cons g65t (.nil _))))))
/-- A mind that has learnt some. -/
def kn0 (l : List Term.D) (h : List Int) : Kn := learnL (List.replicate l.length false, []) h
def knO (l : List Term.D) (h : List Int) : Option Kn := allO l (useL l) ((kn0 l h).1.length + 2) (kn0 l h) 0
def knA (l : List Term.D) (h : List Int) : Kn := (knO l h).getD (kn0 l h)
def rK (l : List Int) (e : Int) : AV := .tup [(false, [.sl true I none l]), (false, [.int .i64 e])]
def rKh (l : List Int) (e : Int) : Option (AV × List AV) := some (.tup [(false, [.hot 0 none]), (false, [.int .i64 e])], [.arr true I l])
theorem r30 (l : List Term.D) (h : List Int) : runG Γ30 noL 3 [] F30 [.one (.sl false Term none l), .one (.sl false I none h)] [.sl true I] =
    bif checkK l [h] != 0 then some (rK [] (checkK l [h])) else bif okTB l then bif okLearn (List.replicate l.length false, []) h then bif (knO l h).isSome then
      bif decide ((knA l h).2.length ≤ 1000000) then some (rK (sortI (knA l h).2) 0) else none else none else none else none := by kernel_rfl
theorem r30h (l : List Term.D) (h : List Int) : runIO Γ30 noL2 3 [] F30 [.one (.sl false Term none l), .one (.sl false I none h)] [] 0 [.arr I, .id] =
    bif checkK l [h] != 0 then rKh [] (checkK l [h]) else bif okTB l then bif okLearn (List.replicate l.length false, []) h then bif (knO l h).isSome then
      bif decide ((knA l h).2.length ≤ 1000000) then rKh (sortI (knA l h).2) 0 else none else none else none else none := by kernel_rfl

end Go.AM.Seat
