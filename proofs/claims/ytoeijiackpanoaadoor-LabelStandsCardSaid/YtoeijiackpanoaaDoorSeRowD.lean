/- The seat: what all rows that list package variables share: what they hold when the call begins. -/
import Derived.Test.YtoeijiackpanoaaDoorSeRowC
import Derived.Test.YtoeijiackpanoaaDoorAmGl
import Derived.Test.YtoeijiackpanoaaDoorSeTab
import Derived.LaidMore
import Derived.OpenShut
import Derived.Stop.Joined
set_option linter.unusedVariables false
set_option maxRecDepth 100000
namespace Go.AM.Seat
open Go Go.AM Go.Proofs Go.Proofs.YtoeijiackpanoaaDoor Go.ChangeShapes Go.WideShapes Go.ChangeAt Go.WideMaps Go.WideElems Go.RowKit

/-- A string, read. -/
theorem trod_string {H : Type} {enc : TypeId × Go.Value → H} {P : Program} {w : World} {base : Nat} {spare : Nat → Bool} {held : Bool} {m : Nat} {e : TypeId} {cs : List Go.Value} {bs : List UInt8} {q : List MemPlace}
    (he : P.underlying e = some .string) (h : DataW.trod enc P w base spare held m e cs = some (.lit (.string bs), q)) : cs = [.string ⟨bs.toArray⟩] ∧ (⟨bs.toArray⟩ : ByteArray).size ≤ 9223372036854775807 := by
  cases m with
  | zero => cases h
  | succ m =>
    unfold DataW.trod at h
    rw [he] at h
    split at h <;> first | (cases h; done) | (rename_i heq; cases heq; done) | skip
    rename_i s heq
    split at h
    · rename_i hs
      simp only [Option.some.injEq, Prod.mk.injEq, DataW.lit.injEq, Lit.string.injEq] at h
      obtain ⟨rfl, _⟩ := h
      have e2 : (⟨s.data.toList.toArray⟩ : ByteArray) = s := by cases s; simp
      rw [e2]
      exact ⟨rfl, by simpa [maxLen] using hs⟩
    · cases h
/-- A row of strings, read. -/
theorem heads_of {H : Type} {enc : TypeId × Go.Value → H} {P : Program} {w : World} {n : Nat} {g fuel : Nat} {t e : TypeId} {nm : String} {cs : Array Go.Value} {bss : List (List UInt8)} {q : List MemPlace}
    (hg : P.globalNamed nm = some g) (hv : w.var? P nm = some cs) (ht : P.underlying t = some (.array n e)) (he : P.underlying e = some .string) (hc : P.cellsOf e = 1) (hn : n = bss.length)
    (h : DataW.trod enc P w 0 (fun _ => true) false fuel t cs.toList = some (.agg (bss.map fun b => .lit (.string b)), q)) : GlobAt w g (bss.map fun b => ⟨b.toArray⟩) := by
  obtain ⟨xs, m, _, hx, _, hlen, hel⟩ := DataW.trod_array ht h
  simp only [Prod.mk.injEq, DataW.agg.injEq] at hx
  intro i hi
  have hi' : i < bss.length := by simpa using hi
  have h1 := hel i (by omega)
  rw [hc] at h1
  have h2 : xs[i]? = some (.lit (.string bss[i]), (xs[i]'(by omega)).2) := by
    have e1 : (xs.map (·.1))[i]? = (bss.map fun b => DataW.lit (Lit.string b))[i]? := by rw [← hx.1]
    rw [List.getElem?_map, List.getElem?_map, List.getElem?_eq_getElem (show i < xs.length by omega), List.getElem?_eq_getElem hi'] at e1
    simp only [Option.map_some, Option.some.injEq] at e1
    rw [List.getElem?_eq_getElem (show i < xs.length by omega)]
    exact congrArg some (Prod.ext e1 rfl)
  rw [h2] at h1
  obtain ⟨k1, k2⟩ := trod_string he h1
  simp only [List.getElem_map]
  refine ⟨?_, k2⟩
  rw [World.var?_cell hg hv i, ← Array.getElem?_toList]
  have : (List.take 1 (List.drop (i * 1) cs.toList))[0]? = some (.string ⟨bss[i].toArray⟩) := by rw [k1]; rfl
  simpa [List.getElem?_take, List.getElem?_drop] using this
def laidD : List (String × DataW Unit) := [("math/bits.deBruijn32tab", Rows.laid_math_bits_deBruijn32tab), ("math/bits.deBruijn64tab", Rows.laid_math_bits_deBruijn64tab), ("internal/strconv.uint64pow10", Rows.laid_internal_strconv_uint64pow10), ("medlar/term.heads", Rows.laid_medlar_term_heads)]
theorem door_met (os : Os) (args : Array Go.Value) : laidMetH Tryd.prog laidD ((World.doorLaid Tryd.prog 400 os).forCall (fun _ _ => 0) ⟨#[], args, []⟩).memory :=
  laidMetH_of_parts3 (fuel := 8) (laidMet_of_run' 8 (by kernel_rfl) (by kernel_rfl)) (by kernel_rfl) (by kernel_rfl)
theorem gHeads : Tryd.prog.globalNamed "medlar/term.heads" = some 0 := by kernel_rfl
def headsB : List (List UInt8) := [[], [97], [76, 40], [82, 40], [75, 40], [87, 40]]
theorem tHeads : (Tryd.prog.globals[0]?).map (·.type) = some headsT ∧ Tryd.prog.underlying headsT = some (.array 6 strT) ∧ Tryd.prog.underlying strT = some .string ∧ Tryd.prog.cellsOf strT = 1 := ⟨by kernel_rfl, by kernel_rfl, by kernel_rfl, by kernel_rfl⟩
theorem globOk_of_laid {W : World} (h : laidMetH Tryd.prog laidD W) : GlobOk W := by
  rw [MakeChecks.laidMetH_plain _ _ _ (by kernel_rfl)] at h
  obtain ⟨ps, ⟨_, _, _, _, _, _, _, _, _, _, ⟨_, _, _, _, _, _, _, _, _, _, ⟨_, _, _, _, _, _, _, _, _, _, ⟨g, t, cs, f, p, q, hg, ht, hv, hd, _, _⟩, _⟩, _⟩, _⟩, _, _⟩ := h
  obtain rfl := Option.some.inj (gHeads.symm.trans hg)
  obtain ⟨h1, h2, h3, h4⟩ := tHeads
  obtain rfl := Option.some.inj (h1.symm.trans ht)
  have hat := heads_of (bss := headsB) hg hv h2 h3 h4 rfl hd
  intro g' l hl
  have : g' = 0 ∧ l = headsB.map fun b => ⟨b.toArray⟩ := by
    unfold glGet glT glGo at hl
    cases hb : Nat.beq 0 g' with
    | false => rw [hb] at hl; cases hl
    | true =>
      rw [hb] at hl
      exact ⟨(Nat.eq_of_beq_eq_true hb).symm, (Option.some.inj hl).symm⟩
  obtain ⟨rfl, rfl⟩ := this
  exact ⟨(cell_lt (hat 0 (by decide)).1).2, hat⟩
end Go.AM.Seat
