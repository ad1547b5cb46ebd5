import Derived.Test.YthnonmlhgafalaaGreatYSeRowC
set_option linter.unusedVariables false
set_option maxRecDepth 100000
namespace Go.AM.Seat
open Go Go.AM Go.Proofs Go.Proofs.YthnonmlhgafalaaGreat Go.ChangeShapes Go.WideShapes Go.ChangeAt Go.RowKit
theorem ty22_centreOnce : typC Tryz.prog 8 22 = some U := by kernel_rfl
theorem ty24_centreOnce : typC Tryz.prog 8 24 = some Block := by kernel_rfl
theorem ty35_centreOnce : typC Tryz.prog 8 35 = some (.pair I (.pair I (.pair .bool (.pair Value (.pair (.pair I (.pair I (.pair (.sl U) I))) (.pair I (.pair (.sl Block) (.pair I (.sl Term))))))))) := by kernel_rfl
theorem lifted_centreOnce (hgood : ∀ x, Good Tryz.prog 10 (encA [.v (.pair I (.pair I (.pair .bool (.pair Value (.pair (.pair I (.pair I (.pair (.sl U) I))) (.pair I (.pair (.sl Block) (.pair I (.sl Term))))))))), .v U, .v U, .v Block] x) (.one (.bool true))) (os : Os) (started : os.Started) (H : Type) (enc : TypeId × Go.Value → H) :
    ReturnsInHanded {} Tryz.checked os 10 .any (Rows.centreOnceSpec.pre6 enc Tryz.prog Tryz.f10 Rows.centreOnceRow.domain false) (Rows.centreOnceSpec.post enc Tryz.prog Tryz.f10 false true false false) := by
  refine returnsInHanded_of_change (C := Tryz.checked) own started (by kernel_rfl) Tryz.func10
    (ChangeSpec.witness6 (enc := enc) (C := Tryz.checked) false ⟨#[], #[.agg #[.int .i64 0, .int .i64 0, .bool false, .bool false, .bool false, .int .u64 0, .int .u64 0, .int .u64 0, .int .u64 0, .int .u64 0, .int .u64 0, .int .i64 0, .int .i64 0, .int .i64 0, .slice none 0 0, .int .i64 0, .int .i64 0, .slice none 0 0, .int .i64 0, .slice none 0 0], .int .u64 0, .int .u64 0, .agg #[.int .u64 0, .int .u64 0]], []⟩ 12 (by kernel_rfl) (by kernel_rfl) (by kernel_rfl) (by kernel_rfl)) ?_
  intro W base args ds gs before hval0 hW hcnd _
  have hval : ∀ (j : Nat) t v, Tryz.f10.params[j]? = some t → args[j]? = some v → Value.okWide Tryz.prog W .any base t v := hval0
  have hW' := hW
  obtain ⟨p, q, hA0, hV, rfl, hfz, hnd⟩ := hW
  have hA : DataW.TrodAll enc Tryz.prog W 0 (fun _ => true) true Tryz.f10.params.toList args.toList ds p := hA0
  rw [Tryz.params10] at hA hval
  obtain ⟨v0, s0, d0, f0, p0, q0, hargs, rfl, rfl, h0, hA1⟩ := trodAll_cons hA
  obtain ⟨v1, s1, d1, f1, p1, q1, rfl, rfl, rfl, h1, hA2⟩ := trodAll_cons hA1
  obtain ⟨v2, s2, d2, f2, p2, q2, rfl, rfl, rfl, h2, hA3⟩ := trodAll_cons hA2
  obtain ⟨v3, s3, d3, f3, p3, q3, rfl, rfl, rfl, h3, hA4⟩ := trodAll_cons hA3
  obtain ⟨rfl, rfl, rfl⟩ := trodAll_nil hA4
  obtain rfl : args = #[v0, v1, v2, v3] := by cases args; simp_all
  obtain ⟨rfl, rfl⟩ := trodVars_none hV
  clear hA0 hval0
  simp only [List.append_nil] at hW'
  have lt : ∀ x ∈ p0 ++ p1 ++ p2 ++ p3, x.block < W.heap.size := fun x hx => hW'.lt x (by simpa using hx)
  obtain ⟨y0, k0⟩ : ∃ y, AVRel W μ0 (argOK fun b => b < W.heap.size) (encV (.pair I (.pair I (.pair .bool (.pair Value (.pair (.pair I (.pair I (.pair (.sl U) I))) (.pair I (.pair (.sl Block) (.pair I (.sl Term))))))))) y) v0 := by
    obtain ⟨fu, g⟩ := h0
    exact arg_agg ty35_centreOnce Tryz.underlying35 rfl (hval 0 35 v0 rfl rfl) g
  obtain ⟨y1, k1⟩ : ∃ y, AVRel W μ0 (argOK fun b => b < W.heap.size) (encV U y) v1 := by
    obtain ⟨fu, g⟩ := h1
    exact arg_scal ty22_centreOnce Tryz.underlying22 rfl rfl (hval 1 22 v1 rfl rfl) g
  obtain ⟨y2, k2⟩ : ∃ y, AVRel W μ0 (argOK fun b => b < W.heap.size) (encV U y) v2 := by
    obtain ⟨fu, g⟩ := h2
    exact arg_scal ty22_centreOnce Tryz.underlying22 rfl rfl (hval 2 22 v2 rfl rfl) g
  obtain ⟨y3, k3⟩ : ∃ y, AVRel W μ0 (argOK fun b => b < W.heap.size) (encV Block y) v3 := by
    obtain ⟨fu, g⟩ := h3
    exact arg_agg ty24_centreOnce Tryz.underlying24 rfl (hval 3 24 v3 rfl rfl) g
  refine (hgood (y0, y1, y2, y3) W (fun b => b < W.heap.size) [v0, v1, v2, v3] ⟨fun _ h => h, fun g l (h : (none : Option (List ByteArray)) = some l) => by cases h⟩ (.cons k0 (.cons k1 (.cons k2 (.cons k3 .nil))))).mono fun e W' hh => ?_
  obtain ⟨v, rfl, hfr, ok', _, _, hv⟩ := hh
  obtain rfl : v = .bool true := hv
  have hb := below_of_fr hfr
  have r22 : ∀ (v : Go.Value) (d : DataW H) (ps : List MemPlace), DataW.Trod enc Tryz.prog W 0 (fun _ => true) true 22 v d ps → (∀ x ∈ ps, x.block < W.heap.size) → DataW.Trod enc Tryz.prog W' 0 (fun b => decide (b < W.heap.size)) true 22 v d ps :=
    fun v d ps h hlt => Below.trod laidOut (by kernel_rfl) (by decide +kernel) h hb hlt
  have r24 : ∀ (v : Go.Value) (d : DataW H) (ps : List MemPlace), DataW.Trod enc Tryz.prog W 0 (fun _ => true) true 24 v d ps → (∀ x ∈ ps, x.block < W.heap.size) → DataW.Trod enc Tryz.prog W' 0 (fun b => decide (b < W.heap.size)) true 24 v d ps :=
    fun v d ps h hlt => Below.trod laidOut (by kernel_rfl) (by decide +kernel) h hb hlt
  have r35 : ∀ (v : Go.Value) (d : DataW H) (ps : List MemPlace), DataW.Trod enc Tryz.prog W 0 (fun _ => true) true 35 v d ps → (∀ x ∈ ps, x.block < W.heap.size) → DataW.Trod enc Tryz.prog W' 0 (fun b => decide (b < W.heap.size)) true 35 v d ps :=
    fun v d ps h hlt => Below.trod laidOut (by kernel_rfl) (by decide +kernel) h hb hlt
  exact ⟨_, rfl, _, _, _, [], _, [], hW', trodAll_mk1 (shut_bool Tryz.underlying4 true), trod_mk (r35 _ _ _ h0 fun x hx => lt x (by simp [hx])) (trod_mk (r22 _ _ _ h1 fun x hx => lt x (by simp [hx])) (trod_mk (r22 _ _ _ h2 fun x hx => lt x (by simp [hx])) (trodAll_mk1 (r24 _ _ _ h3 fun x hx => lt x (by simp [hx]))))), rfl, hb.frame _, fun h => by cases h⟩
end Go.AM.Seat
