/- The row of LabelStands, out of its contract. -/
import Derived.Test.YtoeijiackpanoaaDoorSeRowD
import Derived.Test.YtoeijiackpanoaaDoorCards
import Derived.Test.YtoeijiackpanoaaDoorTie
import Derived.SevenTiedAt
set_option linter.unusedVariables false
set_option maxRecDepth 100000
namespace Go.AM.Seat
open Go Go.AM Go.Proofs Go.Proofs.YtoeijiackpanoaaDoor Go.ChangeShapes Go.WideShapes Go.ChangeAt Go.RowKit

theorem ty3_labelStands : typC Tryd.prog 8 3 = some I := by kernel_rfl
theorem ty24_labelStands : typC Tryd.prog 8 24 = some (.pair U U) := by kernel_rfl
theorem ty30_labelStands : typC Tryd.prog 8 30 = some Block := by kernel_rfl
theorem lifted_labelStands (hgood : ∀ x, Good Tryd.prog 7 (encA [.v Block, .v I, .v I, .v (.pair U U)] x) (.one (.bool true))) (os : Os) (started : os.Started) (H : Type) (enc : TypeId × Go.Value → H) :
    ReturnsInHanded {} Tryd.checked os 7 .any (fun w args => (Rows.labelStandsSpec.pre enc Tryd.prog Tryd.f7 [] false w args ∧ laidMetH Tryd.prog laidD w) ∧ sizedMet enc Tryd.prog Tryd.f7 (OpenSpec.ofChange Rows.labelStandsSpec) false w args) (Rows.labelStandsSpec.post enc Tryd.prog Tryd.f7 false true false false) := by
  refine returnsInHanded_of_change_and (C := Tryd.checked) (X := fun w _ => laidMetH Tryd.prog laidD w) (fun _ _ _ hh h => h.of_heap hh) own started (by kernel_rfl) Tryd.func7
    (ChangeSpec.witness_shaped (enc := enc) (C := Tryd.checked) (os := os) (X := fun w _ => laidMetH Tryd.prog laidD w) false (World.doorLaid Tryd.prog 400 os) #[.agg #[.int .u64 0, .int .u64 0], .int .i64 0, .int .i64 0, .agg #[.int .u64 0, .int .u64 0]] 12 rfl (World.shaped_of_RefB (by kernel_rfl) (by kernel_rfl)) (by kernel_rfl) (by kernel_rfl) (by kernel_rfl) (door_met os _)) ?_
  intro W base args ds gs before hval0 hW _ _ hL _
  have hval : ∀ (j : Nat) t v, Tryd.f7.params[j]? = some t → args[j]? = some v → Value.okWide Tryd.prog W .any base t v := hval0
  have hW' := hW
  obtain ⟨p, q, hA0, hV, rfl, hfz, hnd⟩ := hW
  have hA : DataW.TrodAll enc Tryd.prog W 0 (fun _ => true) true Tryd.f7.params.toList args.toList ds p := hA0
  rw [Tryd.params7] at hA hval
  obtain ⟨v0, s0, d0, f0, p0, q0, hargs, rfl, rfl, h0, hA1⟩ := trodAll_cons hA
  obtain ⟨v1, s1, d1, f1, p1, q1, rfl, rfl, rfl, h1, hA2⟩ := trodAll_cons hA1
  obtain ⟨v2, s2, d2, f2, p2, q2, rfl, rfl, rfl, h2, hA3⟩ := trodAll_cons hA2
  obtain ⟨v3, s3, d3, f3, p3, q3, rfl, rfl, rfl, h3, hA4⟩ := trodAll_cons hA3
  obtain ⟨rfl, rfl, rfl⟩ := trodAll_nil hA4
  obtain rfl : args = #[v0, v1, v2, v3] := by cases args; simp_all
  obtain ⟨rfl, rfl⟩ := trodVars_none hV
  clear hA0 hval0
  simp only [List.append_nil] at hW'
  have lt : ∀ x ∈ p0 ++ p1 ++ p2 ++ p3, x.block < W.heap.size := fun x hx => hW'.lt x (by simpa using hx)
  obtain ⟨y0, k0⟩ : ∃ y, AVRel W μ0 (argOK fun b => b < W.heap.size) (encV Block y) v0 := by
    obtain ⟨fu, g⟩ := h0
    exact arg_agg ty30_labelStands Tryd.underlying30 rfl (hval 0 30 v0 rfl rfl) g
  obtain ⟨y1, k1⟩ : ∃ y, AVRel W μ0 (argOK fun b => b < W.heap.size) (encV I y) v1 := by
    obtain ⟨fu, g⟩ := h1
    exact arg_scal ty3_labelStands Tryd.underlying3 rfl rfl (hval 1 3 v1 rfl rfl) g
  obtain ⟨y2, k2⟩ : ∃ y, AVRel W μ0 (argOK fun b => b < W.heap.size) (encV I y) v2 := by
    obtain ⟨fu, g⟩ := h2
    exact arg_scal ty3_labelStands Tryd.underlying3 rfl rfl (hval 2 3 v2 rfl rfl) g
  obtain ⟨y3, k3⟩ : ∃ y, AVRel W μ0 (argOK fun b => b < W.heap.size) (encV (.pair U U) y) v3 := by
    obtain ⟨fu, g⟩ := h3
    exact arg_agg ty24_labelStands Tryd.underlying24 rfl (hval 3 24 v3 rfl rfl) g
  refine (hgood (y0, y1, y2, y3) W (fun b => b < W.heap.size) [v0, v1, v2, v3] ⟨fun _ h => h, globOk_of_laid hL⟩ (.cons k0 (.cons k1 (.cons k2 (.cons k3 .nil))))).mono fun e W' hh => ?_
  obtain ⟨v, rfl, hfr, ok', _, _, hv⟩ := hh
  obtain rfl : v = .bool true := hv
  have hb := below_of_fr hfr
  have r3 : ∀ (v : Go.Value) (d : DataW H) (ps : List MemPlace), DataW.Trod enc Tryd.prog W 0 (fun _ => true) true 3 v d ps → (∀ x ∈ ps, x.block < W.heap.size) → DataW.Trod enc Tryd.prog W' 0 (fun b => decide (b < W.heap.size)) true 3 v d ps :=
    fun v d ps h hlt => Below.trod laidOut (by kernel_rfl) (by decide +kernel) h hb hlt
  have r24 : ∀ (v : Go.Value) (d : DataW H) (ps : List MemPlace), DataW.Trod enc Tryd.prog W 0 (fun _ => true) true 24 v d ps → (∀ x ∈ ps, x.block < W.heap.size) → DataW.Trod enc Tryd.prog W' 0 (fun b => decide (b < W.heap.size)) true 24 v d ps :=
    fun v d ps h hlt => Below.trod laidOut (by kernel_rfl) (by decide +kernel) h hb hlt
  have r30 : ∀ (v : Go.Value) (d : DataW H) (ps : List MemPlace), DataW.Trod enc Tryd.prog W 0 (fun _ => true) true 30 v d ps → (∀ x ∈ ps, x.block < W.heap.size) → DataW.Trod enc Tryd.prog W' 0 (fun b => decide (b < W.heap.size)) true 30 v d ps :=
    fun v d ps h hlt => Below.trod laidOut (by kernel_rfl) (by decide +kernel) h hb hlt
  exact ⟨_, rfl, _, _, _, [], _, [], hW', trodAll_mk1 (shut_bool Tryd.underlying4 true), trod_mk (r30 _ _ _ h0 fun x hx => lt x (by simp [hx])) (trod_mk (r3 _ _ _ h1 fun x hx => lt x (by simp [hx])) (trod_mk (r3 _ _ _ h2 fun x hx => lt x (by simp [hx])) (trodAll_mk1 (r24 _ _ _ h3 fun x hx => lt x (by simp [hx]))))), rfl, hb.frame _, fun h => by cases h⟩

theorem said_labelStands (hgood : ∀ x, Good Tryd.prog 7 (encA [.v Block, .v I, .v I, .v (.pair U U)] x) (.one (.bool true))) : Rows.LabelStandsSaid :=
  OpenClaim.holds_of_wide 7 Tryd.f7 rfl rfl rfl rfl rfl rfl rfl ⟨rfl, rfl, rfl, rfl, rfl⟩ rfl rfl rfl rfl rfl (by kernel_rfl) Tryd.func7 (by kernel_rfl)
    (of_decide_eq_true (by kernel_rfl)) (by unfold Func.isWrapper; rw [if_neg (by decide +kernel)]; exact ⟨rfl, rfl⟩)
    (fun os started H enc _ => lifted_labelStands hgood os started H enc)

theorem card_labelStands (hgood : ∀ x, Good Tryd.prog 7 (encA [.v Block, .v I, .v I, .v (.pair U U)] x) (.one (.bool true))) : Rows.LabelStandsCardSaid :=
  Claim7.holds_tied_plain_at .later [] [.data, .data, .data, .data] true (true, "784844ef6fc6b599c75839209ac5d297390b9fb230f49b8b6f4720f964f81d8f") false
    (said_labelStands hgood) (fun _ h => by cases h) (by kernel_rfl) (fun _ h => by cases h) labelStands_row_tie rfl ⟨rfl, rfl⟩ (by kernel_rfl) rfl
    (fun f fn hf hfn => by
      obtain rfl : f = 7 := Option.some.inj ((show Tryd.prog.funcNamed "medlar/medlarlaw13.LabelStands" = some 7 by kernel_rfl).symm.trans hf) |>.symm
      obtain rfl : fn = Tryd.f7 := (Option.some.inj (Tryd.func7.symm.trans hfn)).symm
      exact ⟨by kernel_rfl, fun j t ht => by
        rw [Tryd.params7] at ht
        have hm : t ∈ [30, 3, 3, 24] := by simpa using Array.mem_of_getElem? ht
        have hall : ([30, 3, 3, 24].all fun u => !Tryd.prog.wantsStandIn u) = true := by kernel_rfl
        exact (show Tryd.prog.wantsStandIn t = false by simpa using List.all_eq_true.1 hall t hm)⟩)
    (by kernel_rfl)
end Go.AM.Seat
