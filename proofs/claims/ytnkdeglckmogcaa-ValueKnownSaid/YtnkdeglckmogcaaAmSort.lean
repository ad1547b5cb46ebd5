/- slices.Sort at []int, the kit's proved contract, turned to rows: the caller's own row sorted in place. -/
import Derived.Test.YtnkdeglckmogcaaAmFn
import Derived.Shelf.Sort.Plain
import Derived.Shelf.Slices.In.SortNone
import Derived.Sort.OwnSortedInts
set_option linter.unusedVariables false
namespace Go.AM
open Go Go.Proofs Go.Shelf Go.Sort

def sortI (l : List Int) : List Int := l.mergeSort fun x y => decide (x ≤ y)
theorem sortI_len (l : List Int) : (sortI l).length = l.length := List.length_mergeSort l
theorem sortI_mem {l : List Int} {x : Int} : x ∈ sortI l ↔ x ∈ l := List.mem_mergeSort
theorem sort_io {P : Program} {ρ : Go.Shelf.Ren} (L : Lays.n189 P ρ) (l : List Int) (hl : l.length ≤ 1000000) :
    GoodIO P (ρ.f 189) [.one (.hot 0 none)] 1 [.arr false (.int .i64) l] (.tup []) [.arr false (.int .i64) (sortI l)] := by
  intro w okA vs μ hA hargs hO
  cases hargs with
  | @cons x v xs vs hx hxs =>
  cases hxs
  obtain ⟨rfl, _, _⟩ := (hx : SVRel0 w μ (argOK okA) (.hot 0 none) v)
  obtain ⟨h1, h2, h3, h4⟩ := (hO.own 0 : OwnRel w μ (argOK okA) 0 (.arr false (.int .i64) l))
  have hres : ∀ (w' : World) fr b, argOK okA fr b → resOK w w' okA fr b := fun w' fr b h => .inr h
  have hT : ∀ b, argOK okA true b → argOK okA false b := fun b h => absurd h.1 (by simp)
  have one : ∀ (g : AV) (k : Nat), (ownAt [g] k).isOwner = true → k = 0 ∧ ownAt [g] k = g := fun g k hk => by
    cases k with
    | zero => exact ⟨rfl, rfl⟩
    | succ k => unfold ownAt at hk; simp [AV.isOwner] at hk
  rcases h4 with ⟨hb, rfl, hc⟩ | ⟨b, c, E, hb, hblk, hcap, hcs⟩
  · have e : slv (μ 0) none = .slice none 0 0 := by unfold slv; rw [hb, hc, Option.getD_none, h1]; rfl
    rw [e]
    refine (Any.slices_Sort_int_none L none 0 w).mono fun e w' hh => ?_
    obtain ⟨rfl, rfl⟩ := hh
    refine ⟨_, rfl, ⟨rfl, rfl, rfl, Nat.le_refl _, fun _ _ _ => rfl⟩, argOK okA, μ, hres w', hT, ⟨[], rfl, .nil⟩, ?_, fun k b hk hb' => .inr ⟨0, rfl, by rw [← hb', (one _ k hk).1]⟩, fun _ _ => rfl⟩
    have : sortI [] = [] := by simp [sortI]
    rw [this]; exact hO
  · have hcell : ∀ j (h : j < l.length), c[j]? = some (.int .i64 l[j]) := fun j h => by
      obtain ⟨cs, t1, t2⟩ := hcs j h
      have hcs1 : cs = [.int .i64 l[j]] := t1.1
      subst hcs1
      have := t2 0 (by simp)
      have e1 : (Ty.int IntKind.i64).size = 1 := rfl
      rw [e1, Nat.mul_one, Nat.add_zero] at this
      exact this
    have hsz : l.length ≤ c.size := by
      have e1 : (Ty.int IntKind.i64).size = 1 := rfl
      rw [e1, Nat.mul_one] at hcap
      omega
    have htake : c.toList.take l.length = l.map (Value.int .i64) := by
      apply List.ext_getElem?
      intro j
      by_cases hj : j < l.length
      · rw [List.getElem?_take_of_lt hj, Array.getElem?_toList, hcell j hj]; simp [hj]
      · rw [List.getElem?_take_eq_none (by omega), List.getElem?_eq_none (by simp; omega)]
    have hH := holds_of_blockI hblk htake
    have hbl : b < w.heap.size := (hO.blk 0 b rfl hb).1
    have e : slv (μ 0) none = .slice (some ⟨b, 0, none⟩) l.length (μ 0).cap := by unfold slv; rw [hb, Option.getD_none, h1]; rfl
    rw [e]
    refine (Any.slices_Sort_int L b 0 (μ 0).cap l w hH hbl (by omega)).mono fun e w' hh => ?_
    obtain ⟨rfl, n, os, rfl⟩ := hh
    have hg := grownBy_sortedI (w := w) (g := b) (n := n) (os := os) (sortI l).toArray
    have hh := heap_sortedI (n := n) (os := os) (sortI l).toArray hblk
    obtain ⟨g1, g2, g3, g4, g5⟩ := hg
    have hmine : ioMine [.arr false (.int .i64) l] μ b := ⟨0, rfl, hb⟩
    have hlt : b < (grow (putRow (Value.int .i64) (Sort.ahead w n) b 0 (sortI l).toArray) os).heap.size := (Array.getElem?_eq_some_iff.1 hh).1
    refine ⟨_, rfl, ⟨?_, ?_, ?_, g4, fun k hk hm => ?_⟩, argOK okA, μ, hres _, hT, ⟨[], rfl, .nil⟩, ⟨fun k => ?_, fun k b' hk hb' => ?_, fun j k b' hj hk _ _ => ?_⟩, fun k b' hk hb' => ?_, fun _ _ => rfl⟩
    · first | exact g1 | exact g2 | exact g3
    · first | exact g1 | exact g2 | exact g3
    · first | exact g1 | exact g2 | exact g3
    · exact g5 k hk fun e => hm (by have := Option.some.inj e; rw [this]; exact hmine)
    · cases k with
      | succ k => unfold ownAt; simp [OwnRel]
      | zero =>
        refine ⟨by rw [sortI_len]; exact h1, h2, h3, .inr ⟨b, _, E, hb, hh, ?_, fun j hj => ?_⟩⟩
        · simp [putCells]; exact hcap
        · have hj' : j < l.length := by rw [← sortI_len l]; exact hj
          refine ⟨[.int .i64 (sortI l)[j]], ⟨rfl, ?_⟩, fun q hq => ?_⟩
          · have hm : (sortI l)[j] ∈ l := sortI_mem.1 (List.getElem_mem hj)
            obtain ⟨i, hi, e⟩ := List.getElem_of_mem hm
            obtain ⟨cs, t1, _⟩ := hcs i hi
            rw [← e]; exact t1.2
          · obtain rfl : q = 0 := by simp at hq; exact hq
            have e1 : (Ty.int IntKind.i64).size = 1 := rfl
            rw [e1, Nat.mul_one, Nat.add_zero]
            have ht := take_putCellsI c (sortI l) (by rw [sortI_len]; exact hsz)
            have : ((putCells (Value.int .i64) 0 (sortI l).toArray c).toList.take (sortI l).length)[j]? = ((sortI l).map (Value.int .i64))[j]? := by rw [ht]
            rw [List.getElem?_take_of_lt hj, Array.getElem?_toList] at this
            rw [this]; simp [hj]
    · obtain ⟨rfl, _⟩ := one _ k hk
      rw [hb] at hb'; cases hb'
      exact ⟨hlt, (hO.blk 0 b rfl hb).2⟩
    · rw [(one _ j hj).1, (one _ k hk).1]
    · obtain ⟨rfl, _⟩ := one _ k hk
      exact .inr ⟨0, rfl, hb'⟩
end Go.AM
