/- made, out -/
import Derived.Test.YtnkdeglckmogcaaSeKI
import Derived.Test.YtnkdeglckmogcaaSeCl
set_option linter.unusedVariables false
set_option maxRecDepth 100000
namespace Go.AM.Seat
open Go Go.AM Go.Proofs
@[reducible] def Mind : Ty := .pair (.sl Term) (.pair (.sl .bool) (.pair (.sl I) (.sl (.sl I))))
def mAt (b : List Bool) (i : Int) : Bool := b.getD i.toNat false
def madeO (l : List Term.D) (b : List Bool) (i : Int) : Option Bool :=
  bif inB i l.length then
    bif (tAt l i).1 != 1 then
      bif inB (tAt l i).2.1 b.length then
        bif mAt b (tAt l i).2.1 then
          bif (tAt l i).1 != 5 then some true else bif inB (tAt l i).2.2 b.length then some (mAt b (tAt l i).2.2) else none
        else some false
      else none
    else some false
  else none
def outO (l : List Term.D) (b : List Bool) (i : Int) : Option Bool :=
  bif inB i l.length then
    bif (tAt l i).1 == 5 then
      bif inB i b.length then
        bif mAt b i then
          bif inB i l.length then bif inB (tAt l i).2.1 b.length then some (mAt b (tAt l i).2.1) else none else none
        else some false
      else none
    else some false
  else none
def boolK (o : Option Bool) : Option AV := match o with | some x => some (.one (.bool x)) | none => none
theorem r70 (l : List Term.D) (b : List Bool) (c : List Int) (us : List (List Int)) (i : Int) : run (orc []) noL [] F70 [.one (.rp false Mind (l, b, c, us) 0), .one (.int .i64 i)] [] =
    bif inB i l.length then
    bif (tAt l i).1 != 1 then
      bif inB (tAt l i).2.1 b.length then
        bif mAt b (tAt l i).2.1 then
          bif (tAt l i).1 != 5 then some (.one (.bool true)) else bif inB (tAt l i).2.2 b.length then some (.one (.bool (mAt b (tAt l i).2.2))) else none
        else some (.one (.bool false))
      else none
    else some (.one (.bool false))
  else none := by kernel_rfl
theorem r72 (l : List Term.D) (b : List Bool) (c : List Int) (us : List (List Int)) (i : Int) : run (orc []) noL [] F72 [.one (.rp false Mind (l, b, c, us) 0), .one (.int .i64 i)] [] =
    bif inB i l.length then
    bif (tAt l i).1 == 5 then
      bif inB i b.length then
        bif mAt b i then
          bif inB i l.length then bif inB (tAt l i).2.1 b.length then some (.one (.bool (mAt b (tAt l i).2.1))) else none else none
        else some (.one (.bool false))
      else none
    else some (.one (.bool false))
  else none := by kernel_rfl
def s70 : Sp := .fn [.raw, .v I] fun x => match x.1 with
  | .one (.rp false (.pair (.sl (.pair (.int .i64) (.pair (.int .i64) (.int .i64)))) (.pair (.sl .bool) (.pair (.sl (.int .i64)) (.sl (.sl (.int .i64)))))) m 0) => ((madeO m.1 m.2.1 x.2).isSome, .one (.bool ((madeO m.1 m.2.1 x.2).getD false)))
  | _ => (false, AV.junk)
theorem g70 : GoodS Try.prog N70 s70 := by
  refine good (.nil _) H70 rfl (by kernel_rfl) noL [] (noLoops (by kernel_rfl)) [.raw, .v I] (by decide) [] _ fun x r hw h => ?_
  obtain ⟨c, i⟩ := x
  simp only at h
  split at h
  · rename_i m
    obtain ⟨l, b, k, us⟩ := m
    refine (r70 l b k us i).trans ?_
    have e1 := congrArg Prod.fst h
    have e2 := congrArg Prod.snd h
    simp only at e1 e2
    rw [← e2]
    unfold madeO at e1 ⊢
    revert e1
    cases inB i l.length <;> cases (tAt l i).1 != 1 <;> cases inB (tAt l i).2.1 b.length <;> cases mAt b (tAt l i).2.1 <;> cases (tAt l i).1 != 5 <;> cases inB (tAt l i).2.2 b.length <;> first | exact fun _ => rfl | (intro e; cases e)
  · cases h
def s72 : Sp := .fn [.raw, .v I] fun x => match x.1 with
  | .one (.rp false (.pair (.sl (.pair (.int .i64) (.pair (.int .i64) (.int .i64)))) (.pair (.sl .bool) (.pair (.sl (.int .i64)) (.sl (.sl (.int .i64)))))) m 0) => ((outO m.1 m.2.1 x.2).isSome, .one (.bool ((outO m.1 m.2.1 x.2).getD false)))
  | _ => (false, AV.junk)
theorem g72 : GoodS Try.prog N72 s72 := by
  refine good (.nil _) H72 rfl (by kernel_rfl) noL [] (noLoops (by kernel_rfl)) [.raw, .v I] (by decide) [] _ fun x r hw h => ?_
  obtain ⟨c, i⟩ := x
  simp only at h
  split at h
  · rename_i m
    obtain ⟨l, b, k, us⟩ := m
    refine (r72 l b k us i).trans ?_
    have e1 := congrArg Prod.fst h
    have e2 := congrArg Prod.snd h
    simp only at e1 e2
    rw [← e2]
    unfold outO at e1 ⊢
    revert e1
    cases inB i l.length <;> cases (tAt l i).1 == 5 <;> cases inB i b.length <;> cases mAt b i <;> cases inB (tAt l i).2.1 b.length <;> first | exact fun _ => rfl | (intro e; cases e)
  · cases h
end Go.AM.Seat
