/- The row of LabelDoes, out of its contract. -/
import Derived.Test.YtoeijiackpanoaaDoorSeRowD
import Derived.Test.YtoeijiackpanoaaDoorCards
import Derived.Test.YtoeijiackpanoaaDoorTie
import Derived.SevenTiedAt
set_option linter.unusedVariables false
set_option maxRecDepth 100000
namespace Go.AM.Seat
open Go Go.AM Go.Proofs Go.Proofs.YtoeijiackpanoaaDoor Go.ChangeShapes Go.WideShapes Go.ChangeAt Go.RowKit

theorem ty3_labelDoes : typC Tryd.prog 8 3 = some I := by kernel_rfl
theorem ty22_labelDoes : typC Tryd.prog 8 22 = some U := by kernel_rfl
theorem ty24_labelDoes : typC Tryd.prog 8 24 = some (.pair U U) := by kernel_rfl
theorem ty28_labelDoes : typC Tryd.prog 8 28 = some (.sl Term) := by kernel_rfl
theorem ty34_labelDoes : typC Tryd.prog 8 34 = some Value := by kernel_rfl
theorem ty44_labelDoes : typC Tryd.prog 8 44 = some (.sl I) := by kernel_rfl
theorem lifted_labelDoes (hgood : ∀ x, Good Tryd.prog 5 (encA [.v (.sl Term), .v I, .v I, .v Value, .v U, .v (.pair U U), .v (.sl I)] x) (.one (.bool true))) (os : Os) (started : os.Started) (H : Type) (enc : TypeId × Go.Value → H) :
    ReturnsInHanded {} Tryd.checked os 5 .any (fun w args => (Rows.labelDoesSpec.pre enc Tryd.prog Tryd.f5 [] false w args ∧ laidMetH Tryd.prog laidD w) ∧ sizedMet enc Tryd.prog Tryd.f5 (OpenSpec.ofChange Rows.labelDoesSpec) false w args) (Rows.labelDoesSpec.post enc Tryd.prog Tryd.f5 false true false false) := by
  refine returnsInHanded_of_change_and (C := Tryd.checked) (X := fun w _ => laidMetH Tryd.prog laidD w) (fun _ _ _ hh h => h.of_heap hh) own started (by kernel_rfl) Tryd.func5
    (ChangeSpec.witness_shaped (enc := enc) (C := Tryd.checked) (os := os) (X := fun w _ => laidMetH Tryd.prog laidD w) false (World.doorLaid Tryd.prog 400 os) #[.slice none 0 0, .int .i64 0, .int .i64 0, .agg #[.bool false, .bool false, .int .u64 0, .int .u64 0, .int .u64 0, .int .u64 0, .int .u64 0, .int .u64 0, .int .i64 0], .int .u64 0, .agg #[.int .u64 0, .int .u64 0], .slice none 0 0] 12 rfl (World.shaped_of_RefB (by kernel_rfl) (by kernel_rfl)) (by kernel_rfl) (by kernel_rfl) (by kernel_rfl) (door_met os _)) ?_
  intro W base args ds gs before hval0 hW _ _ hL _
  have hval : ∀ (j : Nat) t v, Tryd.f5.params[j]? = some t → args[j]? = some v → Value.okWide Tryd.prog W .any base t v := hval0
  have hW' := hW
  obtain ⟨p, q, hA0, hV, rfl, hfz, hnd⟩ := hW
  have hA : DataW.TrodAll enc Tryd.prog W 0 (fun _ => true) true Tryd.f5.params.toList args.toList ds p := hA0
  rw [Tryd.params5] at hA hval
  obtain ⟨v0, s0, d0, f0, p0, q0, hargs, rfl, rfl, h0, hA1⟩ := trodAll_cons hA
  obtain ⟨v1, s1, d1, f1, p1, q1, rfl, rfl, rfl, h1, hA2⟩ := trodAll_cons hA1
  obtain ⟨v2, s2, d2, f2, p2, q2, rfl, rfl, rfl, h2, hA3⟩ := trodAll_cons hA2
  obtain ⟨v3, s3, d3, f3, p3, q3, rfl, rfl, rfl, h3, hA4⟩ := trodAll_cons hA3
  obtain ⟨v4, s4, d4, f4, p4, q4, rfl, rfl, rfl, h4, hA5⟩ := trodAll_cons hA4
  obtain ⟨v5, s5, d5, f5, p5, q5, rfl, rfl, rfl, h5, hA6⟩ := trodAll_cons hA5
  obtain ⟨v6, s6, d6, f6, p6, q6, rfl, rfl, rfl, h6, hA7⟩ := trodAll_cons hA6
  obtain ⟨rfl, rfl, rfl⟩ := trodAll_nil hA7
  obtain rfl : args = #[v0, v1, v2, v3, v4, v5, v6] := by cases args; simp_all
  obtain ⟨rfl, rfl⟩ := trodVars_none hV
  clear hA0 hval0
  simp only [List.append_nil] at hW'
  have lt : ∀ x ∈ p0 ++ p1 ++ p2 ++ p3 ++ p4 ++ p5 ++ p6, x.block < W.heap.size := fun x hx => hW'.lt x (by simpa using hx)
  obtain ⟨y0, k0⟩ : ∃ y, AVRel W μ0 (argOK fun b => b < W.heap.size) (encV (.sl Term) y) v0 := by
    obtain ⟨fu, g⟩ := h0
    exact arg_scal ty28_labelDoes Tryd.underlying28 rfl rfl (hval 0 28 v0 rfl rfl) g
  obtain ⟨y1, k1⟩ : ∃ y, AVRel W μ0 (argOK fun b => b < W.heap.size) (encV I y) v1 := by
    obtain ⟨fu, g⟩ := h1
    exact arg_scal ty3_labelDoes Tryd.underlying3 rfl rfl (hval 1 3 v1 rfl rfl) g
  obtain ⟨y2, k2⟩ : ∃ y, AVRel W μ0 (argOK fun b => b < W.heap.size) (encV I y) v2 := by
    obtain ⟨fu, g⟩ := h2
    exact arg_scal ty3_labelDoes Tryd.underlying3 rfl rfl (hval 2 3 v2 rfl rfl) g
  obtain ⟨y3, k3⟩ : ∃ y, AVRel W μ0 (argOK fun b => b < W.heap.size) (encV Value y) v3 := by
    obtain ⟨fu, g⟩ := h3
    exact arg_agg ty34_labelDoes Tryd.underlying34 rfl (hval 3 34 v3 rfl rfl) g
  obtain ⟨y4, k4⟩ : ∃ y, AVRel W μ0 (argOK fun b => b < W.heap.size) (encV U y) v4 := by
    obtain ⟨fu, g⟩ := h4
    exact arg_scal ty22_labelDoes Tryd.underlying22 rfl rfl (hval 4 22 v4 rfl rfl) g
  obtain ⟨y5, k5⟩ : ∃ y, AVRel W μ0 (argOK fun b => b < W.heap.size) (encV (.pair U U) y) v5 := by
    obtain ⟨fu, g⟩ := h5
    exact arg_agg ty24_labelDoes Tryd.underlying24 rfl (hval 5 24 v5 rfl rfl) g
  obtain ⟨y6, k6⟩ : ∃ y, AVRel W μ0 (argOK fun b => b < W.heap.size) (encV (.sl I) y) v6 := by
    obtain ⟨fu, g⟩ := h6
    exact arg_scal ty44_labelDoes Tryd.underlying44 rfl rfl (hval 6 44 v6 rfl rfl) g
  refine (hgood (y0, y1, y2, y3, y4, y5, y6) W (fun b => b < W.heap.size) [v0, v1, v2, v3, v4, v5, v6] ⟨fun _ h => h, globOk_of_laid hL⟩ (.cons k0 (.cons k1 (.cons k2 (.cons k3 (.cons k4 (.cons k5 (.cons k6 .nil)))))))).mono fun e W' hh => ?_
  obtain ⟨v, rfl, hfr, ok', _, _, hv⟩ := hh
  obtain rfl : v = .bool true := hv
  have hb := below_of_fr hfr
  have r3 : ∀ (v : Go.Value) (d : DataW H) (ps : List MemPlace), DataW.Trod enc Tryd.prog W 0 (fun _ => true) true 3 v d ps → (∀ x ∈ ps, x.block < W.heap.size) → DataW.Trod enc Tryd.prog W' 0 (fun b => decide (b < W.heap.size)) true 3 v d ps :=
    fun v d ps h hlt => Below.trod laidOut (by kernel_rfl) (by decide +kernel) h hb hlt
  have r22 : ∀ (v : Go.Value) (d : DataW H) (ps : List MemPlace), DataW.Trod enc Tryd.prog W 0 (fun _ => true) true 22 v d ps → (∀ x ∈ ps, x.block < W.heap.size) → DataW.Trod enc Tryd.prog W' 0 (fun b => decide (b < W.heap.size)) true 22 v d ps :=
    fun v d ps h hlt => Below.trod laidOut (by kernel_rfl) (by decide +kernel) h hb hlt
  have r24 : ∀ (v : Go.Value) (d : DataW H) (ps : List MemPlace), DataW.Trod enc Tryd.prog W 0 (fun _ => true) true 24 v d ps → (∀ x ∈ ps, x.block < W.heap.size) → DataW.Trod enc Tryd.prog W' 0 (fun b => decide (b < W.heap.size)) true 24 v d ps :=
    fun v d ps h hlt => Below.trod laidOut (by kernel_rfl) (by decide +kernel) h hb hlt
  have r28 : ∀ (v : Go.Value) (d : DataW H) (ps : List MemPlace), DataW.Trod enc Tryd.prog W 0 (fun _ => true) true 28 v d ps → (∀ x ∈ ps, x.block < W.heap.size) → DataW.Trod enc Tryd.prog W' 0 (fun b => decide (b < W.heap.size)) true 28 v d ps :=
    fun v d ps h hlt => Below.trod laidOut (by kernel_rfl) (by decide +kernel) h hb hlt
  have r34 : ∀ (v : Go.Value) (d : DataW H) (ps : List MemPlace), DataW.Trod enc Tryd.prog W 0 (fun _ => true) true 34 v d ps → (∀ x ∈ ps, x.block < W.heap.size) → DataW.Trod enc Tryd.prog W' 0 (fun b => decide (b < W.heap.size)) true 34 v d ps :=
    fun v d ps h hlt => Below.trod laidOut (by kernel_rfl) (by decide +kernel) h hb hlt
  have r44 : ∀ (v : Go.Value) (d : DataW H) (ps : List MemPlace), DataW.Trod enc Tryd.prog W 0 (fun _ => true) true 44 v d ps → (∀ x ∈ ps, x.block < W.heap.size) → DataW.Trod enc Tryd.prog W' 0 (fun b => decide (b < W.heap.size)) true 44 v d ps :=
    fun v d ps h hlt => Below.trod laidOut (by kernel_rfl) (by decide +kernel) h hb hlt
  exact ⟨_, rfl, _, _, _, [], _, [], hW', trodAll_mk1 (shut_bool Tryd.underlying4 true), trod_mk (r28 _ _ _ h0 fun x hx => lt x (by simp [hx])) (trod_mk (r3 _ _ _ h1 fun x hx => lt x (by simp [hx])) (trod_mk (r3 _ _ _ h2 fun x hx => lt x (by simp [hx])) (trod_mk (r34 _ _ _ h3 fun x hx => lt x (by simp [hx])) (trod_mk (r22 _ _ _ h4 fun x hx => lt x (by simp [hx])) (trod_mk (r24 _ _ _ h5 fun x hx => lt x (by simp [hx])) (trodAll_mk1 (r44 _ _ _ h6 fun x hx => lt x (by simp [hx])))))))), rfl, hb.frame _, fun h => by cases h⟩

theorem said_labelDoes (hgood : ∀ x, Good Tryd.prog 5 (encA [.v (.sl Term), .v I, .v I, .v Value, .v U, .v (.pair U U), .v (.sl I)] x) (.one (.bool true))) : Rows.LabelDoesSaid :=
  OpenClaim.holds_of_wide 5 Tryd.f5 rfl rfl rfl rfl rfl rfl rfl ⟨rfl, rfl, rfl, rfl, rfl⟩ rfl rfl rfl rfl rfl (by kernel_rfl) Tryd.func5 (by kernel_rfl)
    (of_decide_eq_true (by kernel_rfl)) (by unfold Func.isWrapper; rw [if_neg (by decide +kernel)]; exact ⟨rfl, rfl⟩)
    (fun os started H enc _ => lifted_labelDoes hgood os started H enc)

theorem card_labelDoes (hgood : ∀ x, Good Tryd.prog 5 (encA [.v (.sl Term), .v I, .v I, .v Value, .v U, .v (.pair U U), .v (.sl I)] x) (.one (.bool true))) : Rows.LabelDoesCardSaid :=
  Claim7.holds_tied_plain_at .later [] [.data, .data, .data, .data] true (true, "784844ef6fc6b599c75839209ac5d297390b9fb230f49b8b6f4720f964f81d8f") false
    (said_labelDoes hgood) (fun _ h => by cases h) (by kernel_rfl) (fun _ h => by cases h) labelDoes_row_tie rfl ⟨rfl, rfl⟩ (by kernel_rfl) rfl
    (fun f fn hf hfn => by
      obtain rfl : f = 5 := Option.some.inj ((show Tryd.prog.funcNamed "medlar/medlarlaw13.LabelDoes" = some 5 by kernel_rfl).symm.trans hf) |>.symm
      obtain rfl : fn = Tryd.f5 := (Option.some.inj (Tryd.func5.symm.trans hfn)).symm
      exact ⟨by kernel_rfl, fun j t ht => by
        rw [Tryd.params5] at ht
        have hm : t ∈ [28, 3, 3, 34, 22, 24, 44] := by simpa using Array.mem_of_getElem? ht
        have hall : ([28, 3, 3, 34, 22, 24, 44].all fun u => !Tryd.prog.wantsStandIn u) = true := by kernel_rfl
        exact (show Tryd.prog.wantsStandIn t = false by simpa using List.all_eq_true.1 hall t hm)⟩)
    (by kernel_rfl)
end Go.AM.Seat
