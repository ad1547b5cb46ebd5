import Derived.Test.YthnonmlhgafalaaGreatXRoCentreReads
set_option linter.unusedVariables false
set_option maxRecDepth 100000
namespace Go.AM.Seat
open Go Go.AM Go.Proofs Go.Proofs.YthnonmlhgafalaaGreat Go.ChangeShapes Go.WideShapes Go.ChangeAt Go.RowKit
theorem u1_centreReads:(Rows.centreReadsRow.inPlace==Tryz.pinned.checked.prog.inPlace 11)=true:=by kernel_rfl
theorem u2_centreReads:(Rows.centreReadsRow.unfollowed==Tryz.pinned.checked.prog.unfollowed 11)=true:=by kernel_rfl
theorem u3_centreReads:(Rows.centreReadsRow.recurses==Tryz.pinned.checked.prog.recurses 11)=true:=by kernel_rfl
theorem u4_centreReads:(Rows.centreReadsRow.named==Tryz.pinned.checked.prog.varsNamed 11)=true:=by kernel_rfl
theorem u5_centreReads:Tryz.pinned.checked.prog.mayEnter=true:=by kernel_rfl
theorem closed_centreReads:joinedFacts Tryz.pinned.checked.prog 11 Tryz.f11 Rows.centreReadsSpec Rows.centreReadsRow=true:=by
 unfold joinedFacts
 rw[u1_centreReads,u2_centreReads,u3_centreReads,u4_centreReads,u5_centreReads]
 kernel_rfl
theorem said_centreReads (hgood: ∀x,Good Tryz.prog 11 (encA [.v (.pair I (.pair I (.pair .bool (.pair Value (.pair (.pair I (.pair I (.pair (.sl U) I))) (.pair I (.pair (.sl Block) (.pair I (.sl Term))))))))),.v U,.v Block] x) (.one (.bool true))):Rows.CentreReadsSaid:=
 OpenClaim.holds_of_wide 11 Tryz.f11 rfl rfl rfl rfl rfl rfl rfl ⟨rfl,rfl,rfl,rfl,rfl⟩ rfl rfl rfl rfl rfl (by kernel_rfl) Tryz.func11 closed_centreReads
  (of_decide_eq_true (by kernel_rfl)) (by unfold Func.isWrapper;rw[if_neg (by decide+kernel)];exact⟨rfl,rfl⟩)
  (fun os started H enc _=>lifted_centreReads hgood os started H enc)
end Go.AM.Seat
