/- The seat: a law's row, out of its contract. -/
import Derived.Test.YtnkdeglckmogcaaSe3
import Derived.Test.YtnkdeglckmogcaaAmRow
import Derived.Test.YtnkdeglckmogcaaRows
import Derived.ProofKit
set_option linter.unusedVariables false
set_option maxRecDepth 100000
namespace Go.AM.Seat
open Go Go.AM Go.Proofs Go.Proofs.Ytnkdeglckmogcaa Go.ChangeShapes Go.WideShapes Go.ChangeAt Go.RowKit

theorem own : ownKnob Try.prog.godebug = none := by kernel_rfl
theorem laidOut : laidOutB Try.prog = true := by kernel_rfl
theorem ty22 : typC Try.prog N8 22 = some (.sl Term) := by kernel_rfl
theorem ty29 : typC Try.prog N8 29 = some Value := by kernel_rfl

theorem below_of_fr {W W' : World} (h : Fr none1 W W') : Below W.heap.size W W' := ⟨h.os, h.tape, h.output, h.size, fun k hk => h.block k hk id⟩


theorem lifted3 (hgood : ∀ x, Good Try.prog N3 (encA [.v (.sl Term), .v Value, .v Value, .v Value] x) (.one (.bool true))) (os : Os) (started : os.Started) (H : Type) (enc : TypeId × Go.Value → H) :
    ReturnsInHanded {} Try.checked os 3 .any (Rows.valueBackSpec.pre6 enc Try.prog F3 Rows.valueBackRow.domain false) (Rows.valueBackSpec.post enc Try.prog F3 false true false false) := by
  refine returnsInHanded_of_change (C := Try.checked) own started (by kernel_rfl) H3
    (ChangeSpec.witness6 (enc := enc) (C := Try.checked) false ⟨#[], #[.slice none 0 0, .agg #[.bool false, .bool false, .int .u64 0, .int .u64 0, .int .u64 0, .int .u64 0, .int .u64 0, .int .u64 0, .int .i64 0],
      .agg #[.bool false, .bool false, .int .u64 0, .int .u64 0, .int .u64 0, .int .u64 0, .int .u64 0, .int .u64 0, .int .i64 0],
      .agg #[.bool false, .bool false, .int .u64 0, .int .u64 0, .int .u64 0, .int .u64 0, .int .u64 0, .int .u64 0, .int .i64 0]], []⟩ 12 (by kernel_rfl) (by kernel_rfl) (by kernel_rfl) (by kernel_rfl)) ?_
  intro W base args ds gs before hval0 hW hcnd _
  have hval : ∀ (j : Nat) t v, F3.params[j]? = some t → args[j]? = some v → Value.okWide Try.prog W .any base t v := hval0
  have hW' := hW
  obtain ⟨p, q, hA0, hV, rfl, hfz, hnd⟩ := hW
  have hA : DataW.TrodAll enc Try.prog W 0 (fun _ => true) true F3.params.toList args.toList ds p := hA0
  rw [Try.params3] at hA hval
  obtain ⟨v0, v1, v2, v3, d0, d1, d2, d3, p0, p1, p2, p3, rfl, rfl, rfl, h0, h1, h2, h3⟩ := trodAll_four hA
  obtain ⟨rfl, rfl⟩ := trodVars_none hV
  clear hA0 hval0
  simp only [List.append_nil] at hW'
  have lt : ∀ x ∈ p0 ++ p1 ++ p2 ++ p3, x.block < W.heap.size := fun x hx => hW'.lt x hx
  obtain ⟨y0, k0⟩ : ∃ y, AVRel W μ0 (argOK fun b => b < W.heap.size) (encV (.sl Term) y) v0 := by
    obtain ⟨fu, g⟩ := h0
    exact arg_scal ty22 Try.underlying22 rfl rfl (hval 0 22 v0 rfl rfl) g
  obtain ⟨y1, k1⟩ : ∃ y, AVRel W μ0 (argOK fun b => b < W.heap.size) (encV Value y) v1 := by
    obtain ⟨fu, g⟩ := h1
    exact arg_agg ty29 Try.underlying29 rfl (hval 1 29 v1 rfl rfl) g
  obtain ⟨y2, k2⟩ : ∃ y, AVRel W μ0 (argOK fun b => b < W.heap.size) (encV Value y) v2 := by
    obtain ⟨fu, g⟩ := h2
    exact arg_agg ty29 Try.underlying29 rfl (hval 2 29 v2 rfl rfl) g
  obtain ⟨y3, k3⟩ : ∃ y, AVRel W μ0 (argOK fun b => b < W.heap.size) (encV Value y) v3 := by
    obtain ⟨fu, g⟩ := h3
    exact arg_agg ty29 Try.underlying29 rfl (hval 3 29 v3 rfl rfl) g
  refine (hgood (y0, y1, y2, y3) W (fun b => b < W.heap.size) [v0, v1, v2, v3] (fun _ h => h) (.cons k0 (.cons k1 (.cons k2 (.cons k3 .nil))))).mono fun e W' hh => ?_
  obtain ⟨v, rfl, hfr, ok', _, _, hv⟩ := hh
  obtain rfl : v = .bool true := hv
  have hb := below_of_fr hfr
  have r22 : ∀ (v : Go.Value) (d : DataW H) (ps : List MemPlace), DataW.Trod enc Try.prog W 0 (fun _ => true) true 22 v d ps → (∀ x ∈ ps, x.block < W.heap.size) → DataW.Trod enc Try.prog W' 0 (fun b => decide (b < W.heap.size)) true 22 v d ps :=
    fun v d ps h hlt => Below.trod laidOut (by kernel_rfl) (by decide +kernel) h hb hlt
  have r29 : ∀ (v : Go.Value) (d : DataW H) (ps : List MemPlace), DataW.Trod enc Try.prog W 0 (fun _ => true) true 29 v d ps → (∀ x ∈ ps, x.block < W.heap.size) → DataW.Trod enc Try.prog W' 0 (fun b => decide (b < W.heap.size)) true 29 v d ps :=
    fun v d ps h hlt => Below.trod laidOut (by kernel_rfl) (by decide +kernel) h hb hlt
  exact ⟨_, rfl, _, _, _, [], _, [], hW', trodAll_mk1 (shut_bool Try.underlying4 true),
    trodAll_mk4 (r22 _ _ _ h0 fun x hx => lt x (by simp [hx])) (r29 _ _ _ h1 fun x hx => lt x (by simp [hx])) (r29 _ _ _ h2 fun x hx => lt x (by simp [hx])) (r29 _ _ _ h3 fun x hx => lt x (by simp [hx])), rfl, hb.frame _, fun h => by cases h⟩

theorem said3 (hgood : ∀ x, Good Try.prog N3 (encA [.v (.sl Term), .v Value, .v Value, .v Value] x) (.one (.bool true))) : Rows.ValueBackSaid :=
  OpenClaim.holds_of_wide 3 F3 rfl rfl rfl rfl rfl rfl rfl ⟨rfl, rfl, rfl, rfl, rfl⟩ rfl rfl rfl rfl rfl (by kernel_rfl) H3 (by kernel_rfl)
    (of_decide_eq_true (by kernel_rfl)) (by unfold Func.isWrapper; rw [if_neg (by decide +kernel)]; exact ⟨rfl, rfl⟩)
    (fun os started H enc _ => lifted3 hgood os started H enc)
end Go.AM.Seat
