import Derived.Test.YthnonmlhgafalaaGreatZRoCentreEpochs
set_option linter.unusedVariables false
set_option maxRecDepth 100000
namespace Go.AM.Seat
open Go Go.AM Go.Proofs Go.Proofs.YthnonmlhgafalaaGreat Go.ChangeShapes Go.WideShapes Go.ChangeAt Go.RowKit
theorem u1_centreEpochs:(Rows.centreEpochsRow.inPlace==Tryz.pinned.checked.prog.inPlace 9)=true:=by kernel_rfl
theorem u2_centreEpochs:(Rows.centreEpochsRow.unfollowed==Tryz.pinned.checked.prog.unfollowed 9)=true:=by kernel_rfl
theorem u3_centreEpochs:(Rows.centreEpochsRow.recurses==Tryz.pinned.checked.prog.recurses 9)=true:=by kernel_rfl
theorem u4_centreEpochs:(Rows.centreEpochsRow.named==Tryz.pinned.checked.prog.varsNamed 9)=true:=by kernel_rfl
theorem u5_centreEpochs:Tryz.pinned.checked.prog.mayEnter=true:=by kernel_rfl
theorem closed_centreEpochs:joinedFacts Tryz.pinned.checked.prog 9 Tryz.f9 Rows.centreEpochsSpec Rows.centreEpochsRow=true:=by
 unfold joinedFacts
 rw[u1_centreEpochs,u2_centreEpochs,u3_centreEpochs,u4_centreEpochs,u5_centreEpochs]
 kernel_rfl
theorem said_centreEpochs (hgood: ∀x,Good Tryz.prog 9 (encA [.v I,.v I,.v .bool,.v I,.v (.sl Block),.v (.sl U)] x) (.one (.bool true))):Rows.CentreEpochsSaid:=
 OpenClaim.holds_of_wide 9 Tryz.f9 rfl rfl rfl rfl rfl rfl rfl ⟨rfl,rfl,rfl,rfl,rfl⟩ rfl rfl rfl rfl rfl (by kernel_rfl) Tryz.func9 closed_centreEpochs
  (of_decide_eq_true (by kernel_rfl)) (by unfold Func.isWrapper;rw[if_neg (by decide+kernel)];exact⟨rfl,rfl⟩)
  (fun os started H enc _=>lifted_centreEpochs hgood os started H enc)
end Go.AM.Seat
