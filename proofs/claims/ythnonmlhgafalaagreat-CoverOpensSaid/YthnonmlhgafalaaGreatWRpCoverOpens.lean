import Derived.Test.YthnonmlhgafalaaGreatWRoCoverOpens
set_option linter.unusedVariables false
set_option maxRecDepth 100000
namespace Go.AM.Seat
open Go Go.AM Go.Proofs Go.Proofs.YthnonmlhgafalaaGreat Go.ChangeShapes Go.WideShapes Go.ChangeAt Go.RowKit
theorem u1_coverOpens:(Rows.coverOpensRow.inPlace==Tryz.pinned.checked.prog.inPlace 6)=true:=by kernel_rfl
theorem u2_coverOpens:(Rows.coverOpensRow.unfollowed==Tryz.pinned.checked.prog.unfollowed 6)=true:=by kernel_rfl
theorem u3_coverOpens:(Rows.coverOpensRow.recurses==Tryz.pinned.checked.prog.recurses 6)=true:=by kernel_rfl
theorem u4_coverOpens:(Rows.coverOpensRow.named==Tryz.pinned.checked.prog.varsNamed 6)=true:=by kernel_rfl
theorem u5_coverOpens:Tryz.pinned.checked.prog.mayEnter=true:=by kernel_rfl
theorem closed_coverOpens:joinedFacts Tryz.pinned.checked.prog 6 Tryz.f6 Rows.coverOpensSpec Rows.coverOpensRow=true:=by
 unfold joinedFacts
 rw[u1_coverOpens,u2_coverOpens,u3_coverOpens,u4_coverOpens,u5_coverOpens]
 kernel_rfl
theorem said_coverOpens (hgood: ∀x,Good Tryz.prog 6 (encA [.v (.sl Term),.v I,.v I,.v U,.v (.sl (.pair (.pair U U) Value)),.v (.sl (.pair (.pair U U) Value))] x) (.one (.bool true))):Rows.CoverOpensSaid:=
 OpenClaim.holds_of_wide 6 Tryz.f6 rfl rfl rfl rfl rfl rfl rfl ⟨rfl,rfl,rfl,rfl,rfl⟩ rfl rfl rfl rfl rfl (by kernel_rfl) Tryz.func6 closed_coverOpens
  (of_decide_eq_true (by kernel_rfl)) (by unfold Func.isWrapper;rw[if_neg (by decide+kernel)];exact⟨rfl,rfl⟩)
  (fun os started H enc _=>lifted_coverOpens hgood os started H enc)
end Go.AM.Seat
