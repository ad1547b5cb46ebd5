/- The row of ValueKnown, out of its contract. -/
import Derived.Test.YtnkdeglckmogcaaSeRowC
set_option linter.unusedVariables false
set_option maxRecDepth 100000
namespace Go.AM.Seat
open Go Go.AM Go.Proofs Go.Proofs.Ytnkdeglckmogcaa Go.ChangeShapes Go.WideShapes Go.ChangeAt Go.RowKit

theorem ty3_valueKnown : typC Try.prog 8 3 = some I := by kernel_rfl
theorem ty22_valueKnown : typC Try.prog 8 22 = some (.sl Term) := by kernel_rfl
theorem ty29_valueKnown : typC Try.prog 8 29 = some Value := by kernel_rfl
theorem ty45_valueKnown : typC Try.prog 8 45 = some (.sl I) := by kernel_rfl
theorem lifted_valueKnown (hgood : ∀ x, Good Try.prog 15 (encA [.v (.sl Term), .v (.sl I), .v Value, .v Value, .v I] x) (.one (.bool true))) (os : Os) (started : os.Started) (H : Type) (enc : TypeId × Go.Value → H) :
    ReturnsInHanded {} Try.checked os 15 .any (Rows.valueKnownSpec.pre6 enc Try.prog Try.f15 Rows.valueKnownRow.domain false) (Rows.valueKnownSpec.post enc Try.prog Try.f15 false true false false) := by
  refine returnsInHanded_of_change (C := Try.checked) own started (by kernel_rfl) Try.func15
    (ChangeSpec.witness6 (enc := enc) (C := Try.checked) false ⟨#[], #[.slice none 0 0, .slice none 0 0, .agg #[.bool false, .bool false, .int .u64 0, .int .u64 0, .int .u64 0, .int .u64 0, .int .u64 0, .int .u64 0, .int .i64 0], .agg #[.bool false, .bool false, .int .u64 0, .int .u64 0, .int .u64 0, .int .u64 0, .int .u64 0, .int .u64 0, .int .i64 0], .int .i64 0], []⟩ 12 (by kernel_rfl) (by kernel_rfl) (by kernel_rfl) (by kernel_rfl)) ?_
  intro W base args ds gs before hval0 hW hcnd _
  have hval : ∀ (j : Nat) t v, Try.f15.params[j]? = some t → args[j]? = some v → Value.okWide Try.prog W .any base t v := hval0
  have hW' := hW
  obtain ⟨p, q, hA0, hV, rfl, hfz, hnd⟩ := hW
  have hA : DataW.TrodAll enc Try.prog W 0 (fun _ => true) true Try.f15.params.toList args.toList ds p := hA0
  rw [Try.params15] at hA hval
  obtain ⟨v0, s0, d0, f0, p0, q0, hargs, rfl, rfl, h0, hA1⟩ := trodAll_cons hA
  obtain ⟨v1, s1, d1, f1, p1, q1, rfl, rfl, rfl, h1, hA2⟩ := trodAll_cons hA1
  obtain ⟨v2, s2, d2, f2, p2, q2, rfl, rfl, rfl, h2, hA3⟩ := trodAll_cons hA2
  obtain ⟨v3, s3, d3, f3, p3, q3, rfl, rfl, rfl, h3, hA4⟩ := trodAll_cons hA3
  obtain ⟨v4, s4, d4, f4, p4, q4, rfl, rfl, rfl, h4, hA5⟩ := trodAll_cons hA4
  obtain ⟨rfl, rfl, rfl⟩ := trodAll_nil hA5
  obtain rfl : args = #[v0, v1, v2, v3, v4] := by cases args; simp_all
  obtain ⟨rfl, rfl⟩ := trodVars_none hV
  clear hA0 hval0
  simp only [List.append_nil] at hW'
  have lt : ∀ x ∈ p0 ++ p1 ++ p2 ++ p3 ++ p4, x.block < W.heap.size := fun x hx => hW'.lt x (by simpa using hx)
  obtain ⟨y0, k0⟩ : ∃ y, AVRel W μ0 (argOK fun b => b < W.heap.size) (encV (.sl Term) y) v0 := by
    obtain ⟨fu, g⟩ := h0
    exact arg_scal ty22_valueKnown Try.underlying22 rfl rfl (hval 0 22 v0 rfl rfl) g
  obtain ⟨y1, k1⟩ : ∃ y, AVRel W μ0 (argOK fun b => b < W.heap.size) (encV (.sl I) y) v1 := by
    obtain ⟨fu, g⟩ := h1
    exact arg_scal ty45_valueKnown Try.underlying45 rfl rfl (hval 1 45 v1 rfl rfl) g
  obtain ⟨y2, k2⟩ : ∃ y, AVRel W μ0 (argOK fun b => b < W.heap.size) (encV Value y) v2 := by
    obtain ⟨fu, g⟩ := h2
    exact arg_agg ty29_valueKnown Try.underlying29 rfl (hval 2 29 v2 rfl rfl) g
  obtain ⟨y3, k3⟩ : ∃ y, AVRel W μ0 (argOK fun b => b < W.heap.size) (encV Value y) v3 := by
    obtain ⟨fu, g⟩ := h3
    exact arg_agg ty29_valueKnown Try.underlying29 rfl (hval 3 29 v3 rfl rfl) g
  obtain ⟨y4, k4⟩ : ∃ y, AVRel W μ0 (argOK fun b => b < W.heap.size) (encV I y) v4 := by
    obtain ⟨fu, g⟩ := h4
    exact arg_scal ty3_valueKnown Try.underlying3 rfl rfl (hval 4 3 v4 rfl rfl) g
  refine (hgood (y0, y1, y2, y3, y4) W (fun b => b < W.heap.size) [v0, v1, v2, v3, v4] ⟨fun _ h => h, fun g l (h : (none : Option (List ByteArray)) = some l) => by cases h⟩ (.cons k0 (.cons k1 (.cons k2 (.cons k3 (.cons k4 .nil)))))).mono fun e W' hh => ?_
  obtain ⟨v, rfl, hfr, ok', _, _, hv⟩ := hh
  obtain rfl : v = .bool true := hv
  have hb := below_of_fr hfr
  have r3 : ∀ (v : Go.Value) (d : DataW H) (ps : List MemPlace), DataW.Trod enc Try.prog W 0 (fun _ => true) true 3 v d ps → (∀ x ∈ ps, x.block < W.heap.size) → DataW.Trod enc Try.prog W' 0 (fun b => decide (b < W.heap.size)) true 3 v d ps :=
    fun v d ps h hlt => Below.trod laidOut (by kernel_rfl) (by decide +kernel) h hb hlt
  have r22 : ∀ (v : Go.Value) (d : DataW H) (ps : List MemPlace), DataW.Trod enc Try.prog W 0 (fun _ => true) true 22 v d ps → (∀ x ∈ ps, x.block < W.heap.size) → DataW.Trod enc Try.prog W' 0 (fun b => decide (b < W.heap.size)) true 22 v d ps :=
    fun v d ps h hlt => Below.trod laidOut (by kernel_rfl) (by decide +kernel) h hb hlt
  have r29 : ∀ (v : Go.Value) (d : DataW H) (ps : List MemPlace), DataW.Trod enc Try.prog W 0 (fun _ => true) true 29 v d ps → (∀ x ∈ ps, x.block < W.heap.size) → DataW.Trod enc Try.prog W' 0 (fun b => decide (b < W.heap.size)) true 29 v d ps :=
    fun v d ps h hlt => Below.trod laidOut (by kernel_rfl) (by decide +kernel) h hb hlt
  have r45 : ∀ (v : Go.Value) (d : DataW H) (ps : List MemPlace), DataW.Trod enc Try.prog W 0 (fun _ => true) true 45 v d ps → (∀ x ∈ ps, x.block < W.heap.size) → DataW.Trod enc Try.prog W' 0 (fun b => decide (b < W.heap.size)) true 45 v d ps :=
    fun v d ps h hlt => Below.trod laidOut (by kernel_rfl) (by decide +kernel) h hb hlt
  exact ⟨_, rfl, _, _, _, [], _, [], hW', trodAll_mk1 (shut_bool Try.underlying4 true), trod_mk (r22 _ _ _ h0 fun x hx => lt x (by simp [hx])) (trod_mk (r45 _ _ _ h1 fun x hx => lt x (by simp [hx])) (trod_mk (r29 _ _ _ h2 fun x hx => lt x (by simp [hx])) (trod_mk (r29 _ _ _ h3 fun x hx => lt x (by simp [hx])) (trodAll_mk1 (r3 _ _ _ h4 fun x hx => lt x (by simp [hx])))))), rfl, hb.frame _, fun h => by cases h⟩

theorem said_valueKnown (hgood : ∀ x, Good Try.prog 15 (encA [.v (.sl Term), .v (.sl I), .v Value, .v Value, .v I] x) (.one (.bool true))) : Rows.ValueKnownSaid :=
  OpenClaim.holds_of_wide 15 Try.f15 rfl rfl rfl rfl rfl rfl rfl ⟨rfl, rfl, rfl, rfl, rfl⟩ rfl rfl rfl rfl rfl (by kernel_rfl) Try.func15 (by kernel_rfl)
    (of_decide_eq_true (by kernel_rfl)) (by unfold Func.isWrapper; rw [if_neg (by decide +kernel)]; exact ⟨rfl, rfl⟩)
    (fun os started H enc _ => lifted_valueKnown hgood os started H enc)

end Go.AM.Seat
