/- The row of TermWithin, out of its contract. -/
import Derived.Test.YtnkdeglckmogcaaDoorSeRowD
import Derived.Test.YtnkdeglckmogcaaDoorCards
import Derived.Test.YtnkdeglckmogcaaDoorTie
import Derived.SevenTiedAt
set_option linter.unusedVariables false
set_option maxRecDepth 100000
namespace Go.AM.Seat
open Go Go.AM Go.Proofs Go.Proofs.YtnkdeglckmogcaaDoor Go.ChangeShapes Go.WideShapes Go.ChangeAt Go.RowKit

theorem ty3_termWithin : typC Tryd.prog 8 3 = some I := by kernel_rfl
theorem ty22_termWithin : typC Tryd.prog 8 22 = some (.sl Term) := by kernel_rfl
theorem lifted_termWithin (hgood : ∀ x, Good Tryd.prog 7 (encA [.v (.sl Term), .v I] x) (.one (.bool true))) (os : Os) (started : os.Started) (H : Type) (enc : TypeId × Go.Value → H) :
    ReturnsInHanded {} Tryd.checked os 7 .any (fun w args => (Rows.termWithinSpec.pre enc Tryd.prog Tryd.f7 [] false w args ∧ laidMetH Tryd.prog laidD w) ∧ sizedMet enc Tryd.prog Tryd.f7 (OpenSpec.ofChange Rows.termWithinSpec) false w args) (Rows.termWithinSpec.post enc Tryd.prog Tryd.f7 false true false false) := by
  refine returnsInHanded_of_change_and (C := Tryd.checked) (X := fun w _ => laidMetH Tryd.prog laidD w) (fun _ _ _ hh h => h.of_heap hh) own started (by kernel_rfl) Tryd.func7
    (ChangeSpec.witness_shaped (enc := enc) (C := Tryd.checked) (os := os) (X := fun w _ => laidMetH Tryd.prog laidD w) false (World.doorLaid Tryd.prog 400 os) #[.slice none 0 0, .int .i64 0] 12 rfl (World.shaped_of_RefB (by kernel_rfl) (by kernel_rfl)) (by kernel_rfl) (by kernel_rfl) (by kernel_rfl) (door_met os _)) ?_
  intro W base args ds gs before hval0 hW _ _ hL _
  have hval : ∀ (j : Nat) t v, Tryd.f7.params[j]? = some t → args[j]? = some v → Value.okWide Tryd.prog W .any base t v := hval0
  have hW' := hW
  obtain ⟨p, q, hA0, hV, rfl, hfz, hnd⟩ := hW
  have hA : DataW.TrodAll enc Tryd.prog W 0 (fun _ => true) true Tryd.f7.params.toList args.toList ds p := hA0
  rw [Tryd.params7] at hA hval
  obtain ⟨v0, s0, d0, f0, p0, q0, hargs, rfl, rfl, h0, hA1⟩ := trodAll_cons hA
  obtain ⟨v1, s1, d1, f1, p1, q1, rfl, rfl, rfl, h1, hA2⟩ := trodAll_cons hA1
  obtain ⟨rfl, rfl, rfl⟩ := trodAll_nil hA2
  obtain rfl : args = #[v0, v1] := by cases args; simp_all
  obtain ⟨rfl, rfl⟩ := trodVars_none hV
  clear hA0 hval0
  simp only [List.append_nil] at hW'
  have lt : ∀ x ∈ p0 ++ p1, x.block < W.heap.size := fun x hx => hW'.lt x (by simpa using hx)
  obtain ⟨y0, k0⟩ : ∃ y, AVRel W μ0 (argOK fun b => b < W.heap.size) (encV (.sl Term) y) v0 := by
    obtain ⟨fu, g⟩ := h0
    exact arg_scal ty22_termWithin Tryd.underlying22 rfl rfl (hval 0 22 v0 rfl rfl) g
  obtain ⟨y1, k1⟩ : ∃ y, AVRel W μ0 (argOK fun b => b < W.heap.size) (encV I y) v1 := by
    obtain ⟨fu, g⟩ := h1
    exact arg_scal ty3_termWithin Tryd.underlying3 rfl rfl (hval 1 3 v1 rfl rfl) g
  refine (hgood (y0, y1) W (fun b => b < W.heap.size) [v0, v1] ⟨fun _ h => h, globOk_of_laid hL⟩ (.cons k0 (.cons k1 .nil))).mono fun e W' hh => ?_
  obtain ⟨v, rfl, hfr, ok', _, _, hv⟩ := hh
  obtain rfl : v = .bool true := hv
  have hb := below_of_fr hfr
  have r3 : ∀ (v : Go.Value) (d : DataW H) (ps : List MemPlace), DataW.Trod enc Tryd.prog W 0 (fun _ => true) true 3 v d ps → (∀ x ∈ ps, x.block < W.heap.size) → DataW.Trod enc Tryd.prog W' 0 (fun b => decide (b < W.heap.size)) true 3 v d ps :=
    fun v d ps h hlt => Below.trod laidOut (by kernel_rfl) (by decide +kernel) h hb hlt
  have r22 : ∀ (v : Go.Value) (d : DataW H) (ps : List MemPlace), DataW.Trod enc Tryd.prog W 0 (fun _ => true) true 22 v d ps → (∀ x ∈ ps, x.block < W.heap.size) → DataW.Trod enc Tryd.prog W' 0 (fun b => decide (b < W.heap.size)) true 22 v d ps :=
    fun v d ps h hlt => Below.trod laidOut (by kernel_rfl) (by decide +kernel) h hb hlt
  exact ⟨_, rfl, _, _, _, [], _, [], hW', trodAll_mk1 (shut_bool Tryd.underlying4 true), trod_mk (r22 _ _ _ h0 fun x hx => lt x (by simp [hx])) (trodAll_mk1 (r3 _ _ _ h1 fun x hx => lt x (by simp [hx]))), rfl, hb.frame _, fun h => by cases h⟩

theorem said_termWithin (hgood : ∀ x, Good Tryd.prog 7 (encA [.v (.sl Term), .v I] x) (.one (.bool true))) : Rows.TermWithinSaid :=
  OpenClaim.holds_of_wide 7 Tryd.f7 rfl rfl rfl rfl rfl rfl rfl ⟨rfl, rfl, rfl, rfl, rfl⟩ rfl rfl rfl rfl rfl (by kernel_rfl) Tryd.func7 (by kernel_rfl)
    (of_decide_eq_true (by kernel_rfl)) (by unfold Func.isWrapper; rw [if_neg (by decide +kernel)]; exact ⟨rfl, rfl⟩)
    (fun os started H enc _ => lifted_termWithin hgood os started H enc)

theorem card_termWithin (hgood : ∀ x, Good Tryd.prog 7 (encA [.v (.sl Term), .v I] x) (.one (.bool true))) : Rows.TermWithinCardSaid :=
  Claim7.holds_tied_plain_at .later [] [.data, .data, .data, .data] true (true, "2b3c7a7308f961f53eea615ae4588c647821db14b72a6c365a7941a93dbe8849") false
    (said_termWithin hgood) (fun _ h => by cases h) (by kernel_rfl) (fun _ h => by cases h) termWithin_row_tie rfl ⟨rfl, rfl⟩ (by kernel_rfl) rfl
    (fun f fn hf hfn => by
      obtain rfl : f = 7 := Option.some.inj ((show Tryd.prog.funcNamed "medlar/medlarlaw05.TermWithin" = some 7 by kernel_rfl).symm.trans hf) |>.symm
      obtain rfl : fn = Tryd.f7 := (Option.some.inj (Tryd.func7.symm.trans hfn)).symm
      exact ⟨by kernel_rfl, fun j t ht => by
        rw [Tryd.params7] at ht
        have hm : t ∈ [22, 3] := by simpa using Array.mem_of_getElem? ht
        have hall : ([22, 3].all fun u => !Tryd.prog.wantsStandIn u) = true := by kernel_rfl
        exact (show Tryd.prog.wantsStandIn t = false by simpa using List.all_eq_true.1 hall t hm)⟩)
    (by kernel_rfl)
end Go.AM.Seat
