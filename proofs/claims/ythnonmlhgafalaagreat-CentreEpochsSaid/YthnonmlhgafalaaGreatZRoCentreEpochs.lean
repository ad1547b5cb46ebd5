import Derived.Test.YthnonmlhgafalaaGreatZSeRowC
set_option linter.unusedVariables false
set_option maxRecDepth 100000
namespace Go.AM.Seat
open Go Go.AM Go.Proofs Go.Proofs.YthnonmlhgafalaaGreat Go.ChangeShapes Go.WideShapes Go.ChangeAt Go.RowKit
theorem ty3_centreEpochs : typC Tryz.prog 8 3 = some I := by kernel_rfl
theorem ty4_centreEpochs : typC Tryz.prog 8 4 = some .bool := by kernel_rfl
theorem ty29_centreEpochs : typC Tryz.prog 8 29 = some (.sl U) := by kernel_rfl
theorem ty32_centreEpochs : typC Tryz.prog 8 32 = some (.sl Block) := by kernel_rfl
theorem lifted_centreEpochs (hgood : ∀ x, Good Tryz.prog 9 (encA [.v I, .v I, .v .bool, .v I, .v (.sl Block), .v (.sl U)] x) (.one (.bool true))) (os : Os) (started : os.Started) (H : Type) (enc : TypeId × Go.Value → H) :
    ReturnsInHanded {} Tryz.checked os 9 .any (Rows.centreEpochsSpec.pre6 enc Tryz.prog Tryz.f9 Rows.centreEpochsRow.domain false) (Rows.centreEpochsSpec.post enc Tryz.prog Tryz.f9 false true false false) := by
  refine returnsInHanded_of_change (C := Tryz.checked) own started (by kernel_rfl) Tryz.func9
    (ChangeSpec.witness6 (enc := enc) (C := Tryz.checked) false ⟨#[], #[.int .i64 0, .int .i64 0, .bool false, .int .i64 0, .slice none 0 0, .slice none 0 0], []⟩ 12 (by kernel_rfl) (by kernel_rfl) (by kernel_rfl) (by kernel_rfl)) ?_
  intro W base args ds gs before hval0 hW hcnd _
  have hval : ∀ (j : Nat) t v, Tryz.f9.params[j]? = some t → args[j]? = some v → Value.okWide Tryz.prog W .any base t v := hval0
  have hW' := hW
  obtain ⟨p, q, hA0, hV, rfl, hfz, hnd⟩ := hW
  have hA : DataW.TrodAll enc Tryz.prog W 0 (fun _ => true) true Tryz.f9.params.toList args.toList ds p := hA0
  rw [Tryz.params9] at hA hval
  obtain ⟨v0, s0, d0, f0, p0, q0, hargs, rfl, rfl, h0, hA1⟩ := trodAll_cons hA
  obtain ⟨v1, s1, d1, f1, p1, q1, rfl, rfl, rfl, h1, hA2⟩ := trodAll_cons hA1
  obtain ⟨v2, s2, d2, f2, p2, q2, rfl, rfl, rfl, h2, hA3⟩ := trodAll_cons hA2
  obtain ⟨v3, s3, d3, f3, p3, q3, rfl, rfl, rfl, h3, hA4⟩ := trodAll_cons hA3
  obtain ⟨v4, s4, d4, f4, p4, q4, rfl, rfl, rfl, h4, hA5⟩ := trodAll_cons hA4
  obtain ⟨v5, s5, d5, f5, p5, q5, rfl, rfl, rfl, h5, hA6⟩ := trodAll_cons hA5
  obtain ⟨rfl, rfl, rfl⟩ := trodAll_nil hA6
  obtain rfl : args = #[v0, v1, v2, v3, v4, v5] := by cases args; simp_all
  obtain ⟨rfl, rfl⟩ := trodVars_none hV
  clear hA0 hval0
  simp only [List.append_nil] at hW'
  have lt : ∀ x ∈ p0 ++ p1 ++ p2 ++ p3 ++ p4 ++ p5, x.block < W.heap.size := fun x hx => hW'.lt x (by simpa using hx)
  obtain ⟨y0, k0⟩ : ∃ y, AVRel W μ0 (argOK fun b => b < W.heap.size) (encV I y) v0 := by
    obtain ⟨fu, g⟩ := h0
    exact arg_scal ty3_centreEpochs Tryz.underlying3 rfl rfl (hval 0 3 v0 rfl rfl) g
  obtain ⟨y1, k1⟩ : ∃ y, AVRel W μ0 (argOK fun b => b < W.heap.size) (encV I y) v1 := by
    obtain ⟨fu, g⟩ := h1
    exact arg_scal ty3_centreEpochs Tryz.underlying3 rfl rfl (hval 1 3 v1 rfl rfl) g
  obtain ⟨y2, k2⟩ : ∃ y, AVRel W μ0 (argOK fun b => b < W.heap.size) (encV .bool y) v2 := by
    obtain ⟨fu, g⟩ := h2
    exact arg_scal ty4_centreEpochs Tryz.underlying4 rfl rfl (hval 2 4 v2 rfl rfl) g
  obtain ⟨y3, k3⟩ : ∃ y, AVRel W μ0 (argOK fun b => b < W.heap.size) (encV I y) v3 := by
    obtain ⟨fu, g⟩ := h3
    exact arg_scal ty3_centreEpochs Tryz.underlying3 rfl rfl (hval 3 3 v3 rfl rfl) g
  obtain ⟨y4, k4⟩ : ∃ y, AVRel W μ0 (argOK fun b => b < W.heap.size) (encV (.sl Block) y) v4 := by
    obtain ⟨fu, g⟩ := h4
    exact arg_scal ty32_centreEpochs Tryz.underlying32 rfl rfl (hval 4 32 v4 rfl rfl) g
  obtain ⟨y5, k5⟩ : ∃ y, AVRel W μ0 (argOK fun b => b < W.heap.size) (encV (.sl U) y) v5 := by
    obtain ⟨fu, g⟩ := h5
    exact arg_scal ty29_centreEpochs Tryz.underlying29 rfl rfl (hval 5 29 v5 rfl rfl) g
  refine (hgood (y0, y1, y2, y3, y4, y5) W (fun b => b < W.heap.size) [v0, v1, v2, v3, v4, v5] ⟨fun _ h => h, fun g l (h : (none : Option (List ByteArray)) = some l) => by cases h⟩ (.cons k0 (.cons k1 (.cons k2 (.cons k3 (.cons k4 (.cons k5 .nil))))))).mono fun e W' hh => ?_
  obtain ⟨v, rfl, hfr, ok', _, _, hv⟩ := hh
  obtain rfl : v = .bool true := hv
  have hb := below_of_fr hfr
  have r3 : ∀ (v : Go.Value) (d : DataW H) (ps : List MemPlace), DataW.Trod enc Tryz.prog W 0 (fun _ => true) true 3 v d ps → (∀ x ∈ ps, x.block < W.heap.size) → DataW.Trod enc Tryz.prog W' 0 (fun b => decide (b < W.heap.size)) true 3 v d ps :=
    fun v d ps h hlt => Below.trod laidOut (by kernel_rfl) (by decide +kernel) h hb hlt
  have r4 : ∀ (v : Go.Value) (d : DataW H) (ps : List MemPlace), DataW.Trod enc Tryz.prog W 0 (fun _ => true) true 4 v d ps → (∀ x ∈ ps, x.block < W.heap.size) → DataW.Trod enc Tryz.prog W' 0 (fun b => decide (b < W.heap.size)) true 4 v d ps :=
    fun v d ps h hlt => Below.trod laidOut (by kernel_rfl) (by decide +kernel) h hb hlt
  have r29 : ∀ (v : Go.Value) (d : DataW H) (ps : List MemPlace), DataW.Trod enc Tryz.prog W 0 (fun _ => true) true 29 v d ps → (∀ x ∈ ps, x.block < W.heap.size) → DataW.Trod enc Tryz.prog W' 0 (fun b => decide (b < W.heap.size)) true 29 v d ps :=
    fun v d ps h hlt => Below.trod laidOut (by kernel_rfl) (by decide +kernel) h hb hlt
  have r32 : ∀ (v : Go.Value) (d : DataW H) (ps : List MemPlace), DataW.Trod enc Tryz.prog W 0 (fun _ => true) true 32 v d ps → (∀ x ∈ ps, x.block < W.heap.size) → DataW.Trod enc Tryz.prog W' 0 (fun b => decide (b < W.heap.size)) true 32 v d ps :=
    fun v d ps h hlt => Below.trod laidOut (by kernel_rfl) (by decide +kernel) h hb hlt
  exact ⟨_, rfl, _, _, _, [], _, [], hW', trodAll_mk1 (shut_bool Tryz.underlying4 true), trod_mk (r3 _ _ _ h0 fun x hx => lt x (by simp [hx])) (trod_mk (r3 _ _ _ h1 fun x hx => lt x (by simp [hx])) (trod_mk (r4 _ _ _ h2 fun x hx => lt x (by simp [hx])) (trod_mk (r3 _ _ _ h3 fun x hx => lt x (by simp [hx])) (trod_mk (r32 _ _ _ h4 fun x hx => lt x (by simp [hx])) (trodAll_mk1 (r29 _ _ _ h5 fun x hx => lt x (by simp [hx]))))))), rfl, hb.frame _, fun h => by cases h⟩
end Go.AM.Seat
