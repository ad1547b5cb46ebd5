/- know.open's contract. -/
import Derived.Test.YtnkdeglckmogcaaSeKO
import Derived.Test.YtnkdeglckmogcaaSeCom
import Derived.Test.YtnkdeglckmogcaaSeG
import Derived.Test.YtnkdeglckmogcaaAmHot
set_option linter.unusedVariables false
set_option linter.unusedSimpArgs false
namespace Go.AM.Seat
open Go Go.AM Go.Proofs

def tOf (l : List Term.D) (i : Nat) : Int × Int × Int := match l[i]? with | some (a, b, c) => (a, b, c) | none => (1, 0, 0)
def useL (l : List Term.D) : List (List Int) := useU (tOf l) l.length l.length
def okT (l : List Term.D) : Prop := ∀ i, i < l.length → ((tOf l i).1 ≠ 1 → 0 ≤ (tOf l i).2.1 ∧ (tOf l i).2.1 < l.length) ∧ ((tOf l i).1 = 5 → 0 ≤ (tOf l i).2.2 ∧ (tOf l i).2.2 < l.length)
theorem cells_of {w : World} {ok : Nat → Prop} {l : List Term.D} {v : Go.Value} (h : TRel w ok (.sl Term) l [v]) : ∃ xb xo xa cap, v = .slice xa l.length cap ∧ (0 < l.length → xa = some ⟨xb, xo, none⟩ ∧ ok xb) ∧
    ∀ i, i < l.length → w.cell? ⟨xb, xo + i * 3, none⟩ = some (.int .i64 (tOf l i).1) ∧ w.cell? ⟨xb, xo + i * 3 + 1, none⟩ = some (.int .i64 (tOf l i).2.1) ∧ w.cell? ⟨xb, xo + i * 3 + 2, none⟩ = some (.int .i64 (tOf l i).2.2) := by
  obtain ⟨A, c, hv, h1, h2, h3⟩ := h
  have hv : v = .slice A l.length c := by simpa using hv
  rcases h3 with ⟨hA, hl, hc⟩ | ⟨b, o, ⟨sp, hA, hsp⟩, hb, hj⟩
  · exact ⟨0, 0, A, c, hv, fun h => by rw [hl] at h; simp at h, fun i hi => by rw [hl] at hi; simp at hi⟩
  · refine ⟨b, o, A, c, hv, fun h => ?_, fun i hi => ?_⟩
    · have hne : l ≠ [] := by intro e; rw [e] at h; simp at h
      exact ⟨by rw [hA, hsp hne], hb hne⟩
    · obtain ⟨cs, ht, hcs⟩ := hj i hi
      obtain ⟨u, v1, rfl, ⟨e1, _⟩, u2, v2, rfl, ⟨e2, _⟩, ⟨e3, _⟩⟩ := ht
      rw [e1, e2, e3] at hcs
      have hT : tOf l i = (l[i].1, l[i].2.1, l[i].2.2) := by unfold tOf; rw [List.getElem?_eq_getElem hi]
      rw [hT]
      have c0 := hcs 0 (by simp)
      have c1 := hcs 1 (by simp)
      have c2 := hcs 2 (by simp)
      exact ⟨c0, c1, c2⟩
theorem addU_mem {us : List (List Int)} {a : Nat} {i : Int} {j : Nat} {x : Int} (h : x ∈ (addU us a i).getD j []) : x ∈ us.getD j [] ∨ x = i := by
  unfold addU at h
  rw [List.getD_eq_getElem?_getD, List.getElem?_set] at h
  split at h
  · rename_i e
    subst e
    split at h
    · rcases List.mem_append.1 h with h | h
      · exact .inl h
      · exact .inr (by simpa using h)
    · cases h
  · rw [← List.getD_eq_getElem?_getD] at h; exact .inl h
theorem useU_mem {T : Nat → Int × Int × Int} {n : Nat} : ∀ (k j : Nat) (x : Int), x ∈ (useU T n k).getD j [] → 0 ≤ x ∧ x < k := by
  intro k
  induction k with
  | zero =>
    intro j x h
    rw [useU, List.getD_eq_getElem?_getD, List.getElem?_replicate] at h
    split at h <;> cases h
  | succ k ih =>
    intro j x h
    rw [useU] at h
    have key : ∀ us : List (List Int), (∀ (j : Nat) (x : Int), x ∈ us.getD j [] → 0 ≤ x ∧ x < ((k + 1 : Nat) : Int)) → ∀ (a j : Nat) (x : Int), x ∈ (addU us a k).getD j [] → 0 ≤ x ∧ x < ((k + 1 : Nat) : Int) := by
      intro us hus a j x hx
      rcases addU_mem hx with h | h
      · exact hus j x h
      · subst h; omega
    have h0 : ∀ (j : Nat) (x : Int), x ∈ (useU T n k).getD j [] → 0 ≤ x ∧ x < ((k + 1 : Nat) : Int) := fun j x hx => by have := ih j x hx; omega
    unfold stepU at h
    cases h1 : (T k).1 != 1 <;> cases h5 : (T k).1 == 5 <;> simp only [h1, h5, cond_true, cond_false] at h
    · exact h0 _ _ h
    · exact key _ h0 _ _ _ h
    · exact key _ h0 _ _ _ h
    · exact key _ (key _ h0 _) _ _ _ h
def mu62 (bm bi n : Nat) : Locs := fun k => match k with
  | 0 => ⟨some bm, 0, 0⟩
  | 1 => ⟨some bi, n, n⟩
  | _ => ⟨none, 0, 0⟩
theorem io62 (l : List Term.D) (hl : l.length ≤ 1000000) (ht : okT l) : GoodIO Try.prog 62 [.one (.sl false Term none l)] 0 [] (.one (.ptr 0 0))
    [.own [.sl false Term none l, .hot 1 none, .hot 2 none, .sl true (.sl I) none (useL l)], .arr true .bool (List.replicate l.length false), .arr true I []] := by
  intro w okA vs μ hA hargs hO
  cases hargs with
  | cons h0 t =>
  cases t
  rename_i v
  have h0 : TRel w (argOK okA false) (.sl Term) l [v] ∧ nlRel none v := h0
  obtain ⟨xb, xo, xa, cap, rfl, hx, hc⟩ := cells_of h0.1
  refine (open_any w xb xo l.length cap xa hl (tOf l) (fun h => (hx h).1) (fun i hi => (hc i hi).1) (fun i hi => (hc i hi).2.1) (fun i hi => (hc i hi).2.2) (fun i hi => (ht i hi).1) (fun i hi => (ht i hi).2)).mono fun e w' hh => ?_
  obtain ⟨rfl, bi, bu, us, J⟩ := hh
  have big := J.big
  have hi := J.hi
  have hu := J.hu
  refine ⟨_, rfl, ⟨J.fr.os, J.fr.tape, J.fr.output, J.fr.size, fun k hk _ => J.fr.block k hk (by simp)⟩, fun fr b => ((w.heap.size + 3 ≤ b ∨ b = bu) ∧ b < w'.heap.size) ∨ (fr = false ∧ okA b), mu62 (w.heap.size + 1 + 1) bi l.length, fun fr b h => ?_, fun b h => ?_, ⟨_, rfl, rfl⟩, ⟨fun k => ?_, fun k b hk hb => ?_, fun j k b hj hk h1 h2 => ?_⟩, fun k b hk hb => ?_, fun k hk => absurd hk (Nat.not_lt_zero _)⟩
  · rcases h with ⟨h | h, h2⟩ | ⟨h1, h2⟩
    · exact .inl ⟨by omega, h2⟩
    · exact .inl ⟨by omega, h2⟩
    · exact .inr ⟨h1, h2⟩
  · rcases h with h | ⟨h, _⟩
    · exact .inl h
    · cases h
  · match k with
    | 0 =>
      refine ⟨w.heap.size + 1 + 1, _, _, rfl, J.cm, .cons ?_ (.cons ?_ (.cons ?_ (.cons ?_ .nil)))⟩
      · exact ⟨TRel.mono (fun b hb => J.fr.block b (hA.1.1 b hb.2) (by simp)) (fun b hb => .inr ⟨rfl, hb.2⟩) h0.1, h0.2⟩
      · exact ⟨rfl, fun m h => (by cases h), by show l.length ≤ _; omega⟩
      · exact ⟨rfl, fun m h => (by cases h), by show 0 ≤ _; omega⟩
      · refine ⟨⟨some ⟨bu, 0, none⟩, l.length, ?_, ?_, by omega, .inr ⟨bu, 0, ⟨none, rfl, fun _ => rfl⟩, fun _ => .inl ⟨.inr rfl, (Array.getElem?_eq_some_iff.1 J.cu).1⟩, fun j hj => ?_⟩⟩, trivial⟩
        · show _ = [Go.Value.slice _ (useL l).length _]
          rw [show (useL l).length = l.length from J.lenu]
        · exact Nat.le_of_eq J.lenu
        · have hju : j < us.length := by rw [J.lenv]; rw [← J.lenu]; exact hj
          refine ⟨[us[j]], ?_, fun q hq => ?_⟩
          · have ho := J.own j us[j] (List.getElem?_eq_getElem hju)
            have hg : (useU (tOf l) l.length l.length).getD j [] = (useL l)[j] := by
              rw [List.getD_eq_getElem?_getD, List.getElem?_eq_getElem (by exact hj)]; rfl
            have hmem : ∀ x ∈ (useL l)[j], 0 ≤ x ∧ x < (l.length : Int) := fun x hx => useU_mem l.length j x (by rw [hg]; exact hx)
            rw [hg] at ho
            obtain ⟨_, ⟨ev, e0⟩ | ⟨g, cp, cur, ev, hgb, hgh, hle, hcp, _, htk⟩⟩ := ho
            · refine ⟨none, 0, by rw [ev, e0], by omega, by omega, .inl ⟨rfl, List.length_eq_zero_iff.1 e0, rfl⟩⟩
            · have glt := (Array.getElem?_eq_some_iff.1 hgh).1
              refine ⟨some ⟨g, 0, none⟩, cp, by rw [ev], hle, hcp, .inr ⟨g, 0, ⟨none, rfl, fun _ => rfl⟩, fun _ => .inl ⟨.inl hgb, glt⟩, fun q hq => ⟨[.int .i64 ((useL l)[j][q])], ⟨rfl, ?_⟩, fun z hz => ?_⟩⟩⟩
              · have := hmem _ (List.getElem_mem hq)
                have e1 : IntKind.i64.min = -9223372036854775808 := rfl
                have e2 : IntKind.i64.max = 9223372036854775807 := rfl
                exact ⟨by rw [e1]; exact Int.le_trans (by decide) this.1, by rw [e2]; exact Int.le_trans (Int.le_of_lt this.2) (by omega)⟩
              · have hz0 : z = 0 := by simpa using hz
                subst hz0
                show w'.cell? ⟨g, 0 + q * 1 + 0, none⟩ = _
                rw [cell_of_row w' g _ _ _ _ hgh, show 0 + q * 1 + 0 = q by omega, ← Array.getElem?_toList]
                have e1 : (cur.toList.take ((useL l)[j].length * 1))[q]? = some (Go.Value.int .i64 ((useL l)[j][q])) := by rw [htk]; simp [hq]
                rw [List.getElem?_take, if_pos (by omega)] at e1
                exact e1
          · have hq0 : q = 0 := by simpa using hq
            subst hq0
            rw [cell_of_row w' bu _ _ _ _ J.cu]
            show us.toArray[0 + j * 1 + 0]? = _
            rw [show 0 + j * 1 + 0 = j by omega]
            simp [hju]
    | 1 =>
      refine ⟨by show l.length = _; simp, Nat.le_refl _, by show l.length ≤ _; omega, .inr ⟨bi, _, _, rfl, J.ci, ?_, fun j hj => ⟨[.bool false], ?_, fun q hq => ?_⟩⟩⟩
      · show l.length * 1 ≤ _
        rw [← Array.length_toList, toList_madeCells_one]; simp
      · show [Go.Value.bool false] = [Go.Value.bool _]
        simp
      · have hq0 : q = 0 := by simpa using hq
        subst hq0
        have hj' : j < l.length := by simpa using hj
        show (madeCells #[Go.Value.bool false] l.length)[j * 1 + 0]? = _
        rw [← Array.getElem?_toList, toList_madeCells_one, show j * 1 + 0 = j by omega, List.getElem?_replicate, if_pos hj']; rfl
    | 2 => exact ⟨rfl, Nat.le_refl _, by show 0 ≤ _; omega, .inl ⟨rfl, rfl, rfl⟩⟩
    | k + 3 => exact trivial
  · match k with
    | 0 =>
      obtain rfl : w.heap.size + 1 + 1 = b := Option.some.inj hb
      refine ⟨by omega, ?_⟩
      rintro (⟨h | h, _⟩ | ⟨_, h⟩)
      · omega
      · omega
      · have := hA.1.1 _ h; omega
    | 1 =>
      obtain rfl : bi = b := Option.some.inj hb
      refine ⟨by omega, ?_⟩
      rintro (⟨h | h, _⟩ | ⟨_, h⟩)
      · omega
      · exact J.ne h
      · have := hA.1.1 _ h; omega
    | 2 => cases hb
    | k + 3 => cases hb
  · match j, k with
    | 0, 0 => rfl
    | 1, 1 => rfl
    | 0, 1 => 
      obtain rfl : w.heap.size + 1 + 1 = b := Option.some.inj h1
      have : bi = w.heap.size + 1 + 1 := Option.some.inj h2
      omega
    | 1, 0 => 
      obtain rfl : w.heap.size + 1 + 1 = b := Option.some.inj h2
      have : bi = w.heap.size + 1 + 1 := Option.some.inj h1
      omega
    | 2, _ => cases h1
    | _ + 3, _ => cases h1
    | 0, 2 => cases h2
    | 1, 2 => cases h2
    | 0, _ + 3 => cases h2
    | 1, _ + 3 => cases h2
  · match k with
    | 0 =>
      obtain rfl : w.heap.size + 1 + 1 = b := Option.some.inj hb
      exact .inl (by omega)
    | 1 =>
      obtain rfl : bi = b := Option.some.inj hb
      exact .inl (by omega)
    | 2 => cases hb
    | k + 3 => cases hb
noncomputable def okTB (l : List Term.D) : Bool := @decide (l.length ≤ 1000000 ∧ okT l) (Classical.propDecidable _)
noncomputable def s62 : Sp := .io fun a p gs => match a, p, gs with
  | [.one (.sl false (.pair (.int .i64) (.pair (.int .i64) (.int .i64))) none l)], 0, [] =>
    some (okTB l, .one (.ptr 0 0), [.own [.sl false Term none l, .hot 1 none, .hot 2 none, .sl true (.sl I) none (useL l)], .arr true .bool (List.replicate l.length false), .arr true I []])
  | _, _, _ => none
theorem g62 : GoodS Try.prog N62 s62 := by
  refine GoodS.io (callable_of H62 (bd rfl) (by kernel_rfl)) fun a p gs r gs' hw1 hw2 h => ?_
  clear hw1 hw2
  split at h
  · rename_i l
    simp only [Option.some.injEq, Prod.mk.injEq] at h
    obtain ⟨hs, rfl, rfl⟩ := h
    have hs := @of_decide_eq_true _ (Classical.propDecidable _) hs
    exact io62 l hs.1 hs.2
  · cases h
/-- .. told as a mind that others write. -/
noncomputable def s62f : Sp := .io fun a p gs => match a, p, gs with
  | [.one (.sl false (.pair (.int .i64) (.pair (.int .i64) (.int .i64))) none l)], 0, [] =>
    some (okTB l, .one (.ptr 0 0), [.own [.sl false Term none l, .hot 1 none, .hot 2 none, .sl false (.sl I) none (useL l)], .arr false .bool (List.replicate l.length false), .arr false I []])
  | _, _, _ => none
theorem g62f : GoodS Try.prog N62 s62f := by
  refine GoodS.io (callable_of H62 (bd rfl) (by kernel_rfl)) fun a p gs r gs' hw1 hw2 h => ?_
  clear hw1 hw2
  split at h
  · rename_i l
    simp only [Option.some.injEq, Prod.mk.injEq] at h
    obtain ⟨hs, rfl, rfl⟩ := h
    have hs := @of_decide_eq_true _ (Classical.propDecidable _) hs
    exact (io62 l hs.1 hs.2).weak rfl
  · cases h
end Go.AM.Seat
