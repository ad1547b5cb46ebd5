import Derived.Test.YthnonmlhgafalaaGreatYRoCentreOnce
set_option linter.unusedVariables false
set_option maxRecDepth 100000
namespace Go.AM.Seat
open Go Go.AM Go.Proofs Go.Proofs.YthnonmlhgafalaaGreat Go.ChangeShapes Go.WideShapes Go.ChangeAt Go.RowKit
theorem u1_centreOnce:(Rows.centreOnceRow.inPlace==Tryz.pinned.checked.prog.inPlace 10)=true:=by kernel_rfl
theorem u2_centreOnce:(Rows.centreOnceRow.unfollowed==Tryz.pinned.checked.prog.unfollowed 10)=true:=by kernel_rfl
theorem u3_centreOnce:(Rows.centreOnceRow.recurses==Tryz.pinned.checked.prog.recurses 10)=true:=by kernel_rfl
theorem u4_centreOnce:(Rows.centreOnceRow.named==Tryz.pinned.checked.prog.varsNamed 10)=true:=by kernel_rfl
theorem u5_centreOnce:Tryz.pinned.checked.prog.mayEnter=true:=by kernel_rfl
theorem closed_centreOnce:joinedFacts Tryz.pinned.checked.prog 10 Tryz.f10 Rows.centreOnceSpec Rows.centreOnceRow=true:=by
 unfold joinedFacts
 rw[u1_centreOnce,u2_centreOnce,u3_centreOnce,u4_centreOnce,u5_centreOnce]
 kernel_rfl
theorem said_centreOnce (hgood: ∀x,Good Tryz.prog 10 (encA [.v (.pair I (.pair I (.pair .bool (.pair Value (.pair (.pair I (.pair I (.pair (.sl U) I))) (.pair I (.pair (.sl Block) (.pair I (.sl Term))))))))),.v U,.v U,.v Block] x) (.one (.bool true))):Rows.CentreOnceSaid:=
 OpenClaim.holds_of_wide 10 Tryz.f10 rfl rfl rfl rfl rfl rfl rfl ⟨rfl,rfl,rfl,rfl,rfl⟩ rfl rfl rfl rfl rfl (by kernel_rfl) Tryz.func10 closed_centreOnce
  (of_decide_eq_true (by kernel_rfl)) (by unfold Func.isWrapper;rw[if_neg (by decide+kernel)];exact⟨rfl,rfl⟩)
  (fun os started H enc _=>lifted_centreOnce hgood os started H enc)
end Go.AM.Seat
