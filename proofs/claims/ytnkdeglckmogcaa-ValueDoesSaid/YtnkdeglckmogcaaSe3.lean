/- The seat: contracts: terms made. -/
import Derived.Test.YtnkdeglckmogcaaSe2
set_option linter.unusedVariables false
set_option maxRecDepth 100000
namespace Go.AM.Seat
open Go Go.AM Go.Proofs

theorem nl_split {w : World} {okA : Nat → Prop} {f : Bool} {t : Ty} {xs : List t.D} {v : Go.Value} (h : AVRel w μ0 (argOK okA) (.one (.sl f t none xs)) v) :
    (xs = [] ∧ AVRel w μ0 (argOK okA) (.one (.sl f t (some true) xs)) v) ∨ AVRel w μ0 (argOK okA) (.one (.sl f t (some false) xs)) v := by
  obtain ⟨h1, _⟩ := h
  obtain ⟨A, c, e, g1, g2, g3⟩ := id h1
  simp only [List.cons.injEq, and_true] at e
  subst e
  rcases g3 with ⟨rfl, rfl, rfl⟩ | ⟨b, o, ⟨sp, rfl, _⟩, _⟩
  · exact .inl ⟨rfl, h1, rfl⟩
  · exact .inr ⟨h1, _, _, _, rfl⟩
/-- A contract that looks whether its only argument is nil. -/
theorem good_nl {P : Program} {f : FuncId} {t : Ty} {xs : List t.D} {r : AV} (h1 : xs = [] → Good P f [.one (.sl false t (some true) xs)] r) (h2 : Good P f [.one (.sl false t (some false) xs)] r) : Good P f [.one (.sl false t none xs)] r := by
  intro w okA vs hA hl
  cases hl with
  | @cons _ v _ vs' hv ht =>
    rcases nl_split hv with ⟨e, hv'⟩ | hv'
    · exact h1 e w okA _ hA (.cons hv' ht)
    · exact h2 w okA _ hA (.cons hv' ht)

/-! ### slices.Clone of terms -/
theorem r47n (xs : List Term.D) : run (orc []) noL [] F47 [.one (.sl false Term (some true) xs)] [.arr Term] = some (.arr true Term []) := by kernel_rfl
theorem r47 (xs : List Term.D) : run (orc []) noL [] F47 [.one (.sl false Term (some false) xs)] [.arr Term] =
    bif decide ((([] : List Term.D).length + xs.length) * 24 ≤ 140737488355328) then some (.arr true Term ([] ++ xs)) else none := by kernel_rfl
def small24 (n : Nat) : Bool := decide (n * 24 ≤ 140737488355328)
def s47 : Sp := .fn [.v (.sl Term)] fun xs => (small24 xs.length, .arr true Term xs)
theorem ks47 (ws : List WK) (args : List AV) (hl : args.length ≤ F47.ntmps) {r : AV} (h : run (orc []) noL [] F47 args ws = some r) : Good Try.prog N47 args r :=
  good_of mixed tbOk (.nil _) H47 (bd rfl) rfl rfl args hl ⟨F47.ntmps, 0, []⟩ rfl noL (noLoops (by kernel_rfl)) (kretW_spec ws) h
theorem g47 : GoodS Try.prog N47 s47 := by
  refine .fn (callable_of H47 (bd rfl) (by kernel_rfl)) fun xs r hw h => ?_
  have hs : small24 xs.length = true := congrArg Prod.fst h
  obtain rfl : AV.arr true Term xs = r := congrArg Prod.snd h
  refine good_nl (fun e => ?_) ?_
  · subst e
    exact ks47 [.arr Term] _ (by show 1 ≤ 8; omega) (r47n [])
  · refine ks47 [.arr Term] _ (by show 1 ≤ 8; omega) ((r47 xs).trans ?_)
    unfold small24 at hs
    simp only [List.length_nil, Nat.zero_add, hs, cond_true, List.nil_append]
end Go.AM.Seat
