/- The row of KnowParts, out of its contract. -/
import Derived.Test.YtnkdeglckmogcaaSeRowC
set_option linter.unusedVariables false
set_option maxRecDepth 100000
namespace Go.AM.Seat
open Go Go.AM Go.Proofs Go.Proofs.Ytnkdeglckmogcaa Go.ChangeShapes Go.WideShapes Go.ChangeAt Go.RowKit

theorem ty22_knowParts : typC Try.prog 8 22 = some (.sl Term) := by kernel_rfl
theorem ty45_knowParts : typC Try.prog 8 45 = some (.sl I) := by kernel_rfl
theorem lifted_knowParts (hgood : ∀ x, Good Try.prog 10 (encA [.v (.sl Term), .v (.sl I)] x) (.one (.bool true))) (os : Os) (started : os.Started) (H : Type) (enc : TypeId × Go.Value → H) :
    ReturnsInHanded {} Try.checked os 10 .any (Rows.knowPartsSpec.pre6 enc Try.prog Try.f10 Rows.knowPartsRow.domain false) (Rows.knowPartsSpec.post enc Try.prog Try.f10 false true false false) := by
  refine returnsInHanded_of_change (C := Try.checked) own started (by kernel_rfl) Try.func10
    (ChangeSpec.witness6 (enc := enc) (C := Try.checked) false ⟨#[], #[.slice none 0 0, .slice none 0 0], []⟩ 12 (by kernel_rfl) (by kernel_rfl) (by kernel_rfl) (by kernel_rfl)) ?_
  intro W base args ds gs before hval0 hW hcnd _
  have hval : ∀ (j : Nat) t v, Try.f10.params[j]? = some t → args[j]? = some v → Value.okWide Try.prog W .any base t v := hval0
  have hW' := hW
  obtain ⟨p, q, hA0, hV, rfl, hfz, hnd⟩ := hW
  have hA : DataW.TrodAll enc Try.prog W 0 (fun _ => true) true Try.f10.params.toList args.toList ds p := hA0
  rw [Try.params10] at hA hval
  obtain ⟨v0, s0, d0, f0, p0, q0, hargs, rfl, rfl, h0, hA1⟩ := trodAll_cons hA
  obtain ⟨v1, s1, d1, f1, p1, q1, rfl, rfl, rfl, h1, hA2⟩ := trodAll_cons hA1
  obtain ⟨rfl, rfl, rfl⟩ := trodAll_nil hA2
  obtain rfl : args = #[v0, v1] := by cases args; simp_all
  obtain ⟨rfl, rfl⟩ := trodVars_none hV
  clear hA0 hval0
  simp only [List.append_nil] at hW'
  have lt : ∀ x ∈ p0 ++ p1, x.block < W.heap.size := fun x hx => hW'.lt x (by simpa using hx)
  obtain ⟨y0, k0⟩ : ∃ y, AVRel W μ0 (argOK fun b => b < W.heap.size) (encV (.sl Term) y) v0 := by
    obtain ⟨fu, g⟩ := h0
    exact arg_scal ty22_knowParts Try.underlying22 rfl rfl (hval 0 22 v0 rfl rfl) g
  obtain ⟨y1, k1⟩ : ∃ y, AVRel W μ0 (argOK fun b => b < W.heap.size) (encV (.sl I) y) v1 := by
    obtain ⟨fu, g⟩ := h1
    exact arg_scal ty45_knowParts Try.underlying45 rfl rfl (hval 1 45 v1 rfl rfl) g
  refine (hgood (y0, y1) W (fun b => b < W.heap.size) [v0, v1] ⟨fun _ h => h, fun g l (h : (none : Option (List ByteArray)) = some l) => by cases h⟩ (.cons k0 (.cons k1 .nil))).mono fun e W' hh => ?_
  obtain ⟨v, rfl, hfr, ok', _, _, hv⟩ := hh
  obtain rfl : v = .bool true := hv
  have hb := below_of_fr hfr
  have r22 : ∀ (v : Go.Value) (d : DataW H) (ps : List MemPlace), DataW.Trod enc Try.prog W 0 (fun _ => true) true 22 v d ps → (∀ x ∈ ps, x.block < W.heap.size) → DataW.Trod enc Try.prog W' 0 (fun b => decide (b < W.heap.size)) true 22 v d ps :=
    fun v d ps h hlt => Below.trod laidOut (by kernel_rfl) (by decide +kernel) h hb hlt
  have r45 : ∀ (v : Go.Value) (d : DataW H) (ps : List MemPlace), DataW.Trod enc Try.prog W 0 (fun _ => true) true 45 v d ps → (∀ x ∈ ps, x.block < W.heap.size) → DataW.Trod enc Try.prog W' 0 (fun b => decide (b < W.heap.size)) true 45 v d ps :=
    fun v d ps h hlt => Below.trod laidOut (by kernel_rfl) (by decide +kernel) h hb hlt
  exact ⟨_, rfl, _, _, _, [], _, [], hW', trodAll_mk1 (shut_bool Try.underlying4 true), trod_mk (r22 _ _ _ h0 fun x hx => lt x (by simp [hx])) (trodAll_mk1 (r45 _ _ _ h1 fun x hx => lt x (by simp [hx]))), rfl, hb.frame _, fun h => by cases h⟩

theorem said_knowParts (hgood : ∀ x, Good Try.prog 10 (encA [.v (.sl Term), .v (.sl I)] x) (.one (.bool true))) : Rows.KnowPartsSaid :=
  OpenClaim.holds_of_wide 10 Try.f10 rfl rfl rfl rfl rfl rfl rfl ⟨rfl, rfl, rfl, rfl, rfl⟩ rfl rfl rfl rfl rfl (by kernel_rfl) Try.func10 (by kernel_rfl)
    (of_decide_eq_true (by kernel_rfl)) (by unfold Func.isWrapper; rw [if_neg (by decide +kernel)]; exact ⟨rfl, rfl⟩)
    (fun os started H enc _ => lifted_knowParts hgood os started H enc)

end Go.AM.Seat
