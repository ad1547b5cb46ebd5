import Derived.Test.YthnonmlhgafalaaGreatXRoCentreApart
set_option linter.unusedVariables false
set_option maxRecDepth 100000
namespace Go.AM.Seat
open Go Go.AM Go.Proofs Go.Proofs.YthnonmlhgafalaaGreat Go.ChangeShapes Go.WideShapes Go.ChangeAt Go.RowKit
theorem u1_centreApart:(Rows.centreApartRow.inPlace==Tryz.pinned.checked.prog.inPlace 4)=true:=by kernel_rfl
theorem u2_centreApart:(Rows.centreApartRow.unfollowed==Tryz.pinned.checked.prog.unfollowed 4)=true:=by kernel_rfl
theorem u3_centreApart:(Rows.centreApartRow.recurses==Tryz.pinned.checked.prog.recurses 4)=true:=by kernel_rfl
theorem u4_centreApart:(Rows.centreApartRow.named==Tryz.pinned.checked.prog.varsNamed 4)=true:=by kernel_rfl
theorem u5_centreApart:Tryz.pinned.checked.prog.mayEnter=true:=by kernel_rfl
theorem closed_centreApart:joinedFacts Tryz.pinned.checked.prog 4 Tryz.f4 Rows.centreApartSpec Rows.centreApartRow=true:=by
 unfold joinedFacts
 rw[u1_centreApart,u2_centreApart,u3_centreApart,u4_centreApart,u5_centreApart]
 kernel_rfl
theorem said_centreApart (hgood: ∀x,Good Tryz.prog 4 (encA [.v (.pair I (.pair I (.pair .bool (.pair Value (.pair (.pair I (.pair I (.pair (.sl U) I))) (.pair I (.pair (.sl Block) (.pair I (.sl Term))))))))),.v U,.v Block] x) (.one (.bool true))):Rows.CentreApartSaid:=
 OpenClaim.holds_of_wide 4 Tryz.f4 rfl rfl rfl rfl rfl rfl rfl ⟨rfl,rfl,rfl,rfl,rfl⟩ rfl rfl rfl rfl rfl (by kernel_rfl) Tryz.func4 closed_centreApart
  (of_decide_eq_true (by kernel_rfl)) (by unfold Func.isWrapper;rw[if_neg (by decide+kernel)];exact⟨rfl,rfl⟩)
  (fun os started H enc _=>lifted_centreApart hgood os started H enc)
end Go.AM.Seat
