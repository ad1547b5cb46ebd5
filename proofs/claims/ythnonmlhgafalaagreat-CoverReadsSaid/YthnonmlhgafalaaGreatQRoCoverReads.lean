import Derived.Test.YthnonmlhgafalaaGreatQSeRowC
set_option linter.unusedVariables false
set_option maxRecDepth 100000
namespace Go.AM.Seat
open Go Go.AM Go.Proofs Go.Proofs.YthnonmlhgafalaaGreat Go.ChangeShapes Go.WideShapes Go.ChangeAt Go.RowKit
theorem ty3_coverReads : typC Tryz.prog 8 3 = some I := by kernel_rfl
theorem ty4_coverReads : typC Tryz.prog 8 4 = some .bool := by kernel_rfl
theorem ty22_coverReads : typC Tryz.prog 8 22 = some U := by kernel_rfl
theorem ty24_coverReads : typC Tryz.prog 8 24 = some Block := by kernel_rfl
theorem ty29_coverReads : typC Tryz.prog 8 29 = some (.sl U) := by kernel_rfl
theorem lifted_coverReads (hgood : ∀ x, Good Tryz.prog 7 (encA [.v Block, .v Block, .v .bool, .v I, .v I, .v (.sl U), .v U] x) (.one (.bool true))) (os : Os) (started : os.Started) (H : Type) (enc : TypeId × Go.Value → H) :
    ReturnsInHanded {} Tryz.checked os 7 .any (Rows.coverReadsSpec.pre6 enc Tryz.prog Tryz.f7 Rows.coverReadsRow.domain false) (Rows.coverReadsSpec.post enc Tryz.prog Tryz.f7 false true false false) := by
  refine returnsInHanded_of_change (C := Tryz.checked) own started (by kernel_rfl) Tryz.func7
    (ChangeSpec.witness6 (enc := enc) (C := Tryz.checked) false ⟨#[], #[.agg #[.int .u64 0, .int .u64 0], .agg #[.int .u64 0, .int .u64 0], .bool false, .int .i64 0, .int .i64 0, .slice none 0 0, .int .u64 0], []⟩ 12 (by kernel_rfl) (by kernel_rfl) (by kernel_rfl) (by kernel_rfl)) ?_
  intro W base args ds gs before hval0 hW hcnd _
  have hval : ∀ (j : Nat) t v, Tryz.f7.params[j]? = some t → args[j]? = some v → Value.okWide Tryz.prog W .any base t v := hval0
  have hW' := hW
  obtain ⟨p, q, hA0, hV, rfl, hfz, hnd⟩ := hW
  have hA : DataW.TrodAll enc Tryz.prog W 0 (fun _ => true) true Tryz.f7.params.toList args.toList ds p := hA0
  rw [Tryz.params7] at hA hval
  obtain ⟨v0, s0, d0, f0, p0, q0, hargs, rfl, rfl, h0, hA1⟩ := trodAll_cons hA
  obtain ⟨v1, s1, d1, f1, p1, q1, rfl, rfl, rfl, h1, hA2⟩ := trodAll_cons hA1
  obtain ⟨v2, s2, d2, f2, p2, q2, rfl, rfl, rfl, h2, hA3⟩ := trodAll_cons hA2
  obtain ⟨v3, s3, d3, f3, p3, q3, rfl, rfl, rfl, h3, hA4⟩ := trodAll_cons hA3
  obtain ⟨v4, s4, d4, f4, p4, q4, rfl, rfl, rfl, h4, hA5⟩ := trodAll_cons hA4
  obtain ⟨v5, s5, d5, f5, p5, q5, rfl, rfl, rfl, h5, hA6⟩ := trodAll_cons hA5
  obtain ⟨v6, s6, d6, f6, p6, q6, rfl, rfl, rfl, h6, hA7⟩ := trodAll_cons hA6
  obtain ⟨rfl, rfl, rfl⟩ := trodAll_nil hA7
  obtain rfl : args = #[v0, v1, v2, v3, v4, v5, v6] := by cases args; simp_all
  obtain ⟨rfl, rfl⟩ := trodVars_none hV
  clear hA0 hval0
  simp only [List.append_nil] at hW'
  have lt : ∀ x ∈ p0 ++ p1 ++ p2 ++ p3 ++ p4 ++ p5 ++ p6, x.block < W.heap.size := fun x hx => hW'.lt x (by simpa using hx)
  obtain ⟨y0, k0⟩ : ∃ y, AVRel W μ0 (argOK fun b => b < W.heap.size) (encV Block y) v0 := by
    obtain ⟨fu, g⟩ := h0
    exact arg_agg ty24_coverReads Tryz.underlying24 rfl (hval 0 24 v0 rfl rfl) g
  obtain ⟨y1, k1⟩ : ∃ y, AVRel W μ0 (argOK fun b => b < W.heap.size) (encV Block y) v1 := by
    obtain ⟨fu, g⟩ := h1
    exact arg_agg ty24_coverReads Tryz.underlying24 rfl (hval 1 24 v1 rfl rfl) g
  obtain ⟨y2, k2⟩ : ∃ y, AVRel W μ0 (argOK fun b => b < W.heap.size) (encV .bool y) v2 := by
    obtain ⟨fu, g⟩ := h2
    exact arg_scal ty4_coverReads Tryz.underlying4 rfl rfl (hval 2 4 v2 rfl rfl) g
  obtain ⟨y3, k3⟩ : ∃ y, AVRel W μ0 (argOK fun b => b < W.heap.size) (encV I y) v3 := by
    obtain ⟨fu, g⟩ := h3
    exact arg_scal ty3_coverReads Tryz.underlying3 rfl rfl (hval 3 3 v3 rfl rfl) g
  obtain ⟨y4, k4⟩ : ∃ y, AVRel W μ0 (argOK fun b => b < W.heap.size) (encV I y) v4 := by
    obtain ⟨fu, g⟩ := h4
    exact arg_scal ty3_coverReads Tryz.underlying3 rfl rfl (hval 4 3 v4 rfl rfl) g
  obtain ⟨y5, k5⟩ : ∃ y, AVRel W μ0 (argOK fun b => b < W.heap.size) (encV (.sl U) y) v5 := by
    obtain ⟨fu, g⟩ := h5
    exact arg_scal ty29_coverReads Tryz.underlying29 rfl rfl (hval 5 29 v5 rfl rfl) g
  obtain ⟨y6, k6⟩ : ∃ y, AVRel W μ0 (argOK fun b => b < W.heap.size) (encV U y) v6 := by
    obtain ⟨fu, g⟩ := h6
    exact arg_scal ty22_coverReads Tryz.underlying22 rfl rfl (hval 6 22 v6 rfl rfl) g
  refine (hgood (y0, y1, y2, y3, y4, y5, y6) W (fun b => b < W.heap.size) [v0, v1, v2, v3, v4, v5, v6] ⟨fun _ h => h, fun g l (h : (none : Option (List ByteArray)) = some l) => by cases h⟩ (.cons k0 (.cons k1 (.cons k2 (.cons k3 (.cons k4 (.cons k5 (.cons k6 .nil)))))))).mono fun e W' hh => ?_
  obtain ⟨v, rfl, hfr, ok', _, _, hv⟩ := hh
  obtain rfl : v = .bool true := hv
  have hb := below_of_fr hfr
  have r3 : ∀ (v : Go.Value) (d : DataW H) (ps : List MemPlace), DataW.Trod enc Tryz.prog W 0 (fun _ => true) true 3 v d ps → (∀ x ∈ ps, x.block < W.heap.size) → DataW.Trod enc Tryz.prog W' 0 (fun b => decide (b < W.heap.size)) true 3 v d ps :=
    fun v d ps h hlt => Below.trod laidOut (by kernel_rfl) (by decide +kernel) h hb hlt
  have r4 : ∀ (v : Go.Value) (d : DataW H) (ps : List MemPlace), DataW.Trod enc Tryz.prog W 0 (fun _ => true) true 4 v d ps → (∀ x ∈ ps, x.block < W.heap.size) → DataW.Trod enc Tryz.prog W' 0 (fun b => decide (b < W.heap.size)) true 4 v d ps :=
    fun v d ps h hlt => Below.trod laidOut (by kernel_rfl) (by decide +kernel) h hb hlt
  have r22 : ∀ (v : Go.Value) (d : DataW H) (ps : List MemPlace), DataW.Trod enc Tryz.prog W 0 (fun _ => true) true 22 v d ps → (∀ x ∈ ps, x.block < W.heap.size) → DataW.Trod enc Tryz.prog W' 0 (fun b => decide (b < W.heap.size)) true 22 v d ps :=
    fun v d ps h hlt => Below.trod laidOut (by kernel_rfl) (by decide +kernel) h hb hlt
  have r24 : ∀ (v : Go.Value) (d : DataW H) (ps : List MemPlace), DataW.Trod enc Tryz.prog W 0 (fun _ => true) true 24 v d ps → (∀ x ∈ ps, x.block < W.heap.size) → DataW.Trod enc Tryz.prog W' 0 (fun b => decide (b < W.heap.size)) true 24 v d ps :=
    fun v d ps h hlt => Below.trod laidOut (by kernel_rfl) (by decide +kernel) h hb hlt
  have r29 : ∀ (v : Go.Value) (d : DataW H) (ps : List MemPlace), DataW.Trod enc Tryz.prog W 0 (fun _ => true) true 29 v d ps → (∀ x ∈ ps, x.block < W.heap.size) → DataW.Trod enc Tryz.prog W' 0 (fun b => decide (b < W.heap.size)) true 29 v d ps :=
    fun v d ps h hlt => Below.trod laidOut (by kernel_rfl) (by decide +kernel) h hb hlt
  exact ⟨_, rfl, _, _, _, [], _, [], hW', trodAll_mk1 (shut_bool Tryz.underlying4 true), trod_mk (r24 _ _ _ h0 fun x hx => lt x (by simp [hx])) (trod_mk (r24 _ _ _ h1 fun x hx => lt x (by simp [hx])) (trod_mk (r4 _ _ _ h2 fun x hx => lt x (by simp [hx])) (trod_mk (r3 _ _ _ h3 fun x hx => lt x (by simp [hx])) (trod_mk (r3 _ _ _ h4 fun x hx => lt x (by simp [hx])) (trod_mk (r29 _ _ _ h5 fun x hx => lt x (by simp [hx])) (trodAll_mk1 (r22 _ _ _ h6 fun x hx => lt x (by simp [hx])))))))), rfl, hb.frame _, fun h => by cases h⟩
theorem said_coverReads (hgood : ∀ x, Good Tryz.prog 7 (encA [.v Block, .v Block, .v .bool, .v I, .v I, .v (.sl U), .v U] x) (.one (.bool true))) : Rows.CoverReadsSaid :=
  OpenClaim.holds_of_wide 7 Tryz.f7 rfl rfl rfl rfl rfl rfl rfl ⟨rfl, rfl, rfl, rfl, rfl⟩ rfl rfl rfl rfl rfl (by kernel_rfl) Tryz.func7 (by kernel_rfl)
    (of_decide_eq_true (by kernel_rfl)) (by unfold Func.isWrapper; rw [if_neg (by decide +kernel)]; exact ⟨rfl, rfl⟩)
    (fun os started H enc _ => lifted_coverReads hgood os started H enc)
end Go.AM.Seat
