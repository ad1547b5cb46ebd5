/- An abstract machine over the model's own code: how a row's reading gives typed data. -/
import Derived.Test.YtoeijiackpanoaaAmTab
set_option linter.unusedVariables false
set_option linter.unusedSimpArgs false
namespace Go.AM

/-- A type as data: each part lies where it must. -/
def typC (P : Program) : Nat → TypeId → Option Ty
  | 0, _ => none
  | d + 1, t =>
    match P.underlying t with
    | some (.int k) => some (.int k)
    | some .bool => some .bool
    | some .string => some .str
    | some (.slice e) =>
      match typC P d e with
      | some te => bif Nat.beq (P.cellsOf e) te.size && Nat.blt 0 te.size then some (.sl te) else none
      | none => none
    | some (.struct F) =>
      match fieldsC (typC P d) 0 F.toList with
      | some ty => bif Nat.beq (P.cellsOf t) ty.size then some ty else none
      | none => none
    | some (.array n e) =>
      match typC P d e with
      | some te => bif Nat.beq (P.cellsOf e) te.size then
          match repC n te with
          | some ty => bif Nat.beq (P.cellsOf t) ty.size then some ty else none
          | none => none
        else none
      | none => none
    | _ => none
where
  fieldsC (k : TypeId → Option Ty) : Nat → List Field → Option Ty
    | _, [] => none
    | o, [f] =>
      match k f.type with
      | some a => bif Nat.beq f.offset o && Nat.beq (P.cellsOf f.type) a.size then some a else none
      | none => none
    | o, f :: fs =>
      match k f.type, fieldsC k (o + P.cellsOf f.type) fs with
      | some a, some b => bif Nat.beq f.offset o && Nat.beq (P.cellsOf f.type) a.size then some (.pair a b) else none
      | _, _ => none
  repC : Nat → Ty → Option Ty
    | 0, _ => none
    | 1, t => some t
    | n + 1, t => match repC n t with
      | some r => some (.pair t r)
      | none => none

theorem mapM_spec {α β : Type} {f : α → Option β} : ∀ {l : List α} {r : List β}, l.mapM f = some r → All2 (fun a b => f a = some b) l r := by
  intro l
  induction l with
  | nil => intro r h; simp at h; subst h; exact .nil
  | cons a l ih =>
    intro r h
    simp only [List.mapM_cons, Option.bind_eq_bind, Option.bind_eq_some_iff, Option.pure_def, Option.some.injEq] at h
    obtain ⟨b, hb, r', hr, rfl⟩ := h
    exact .cons hb (ih hr)

section
variable {H : Type} {enc : TypeId × Value → H} {P : Program} {w : World} {base : Nat} {spare : Nat → Bool} {held : Bool}

theorem all2_range {β : Type} {R : Nat → β → Prop} {n : Nat} {r : List β} (h : All2 R (List.range n) r) : r.length = n ∧ ∀ i b, r[i]? = some b → R i b := by
  refine ⟨by rw [← h.length, List.length_range], fun i b hi => ?_⟩
  have hlt : i < n := by
    have := (List.getElem?_eq_some_iff.1 hi).1
    rw [← h.length, List.length_range] at this; exact this
  obtain ⟨b', h1, h2⟩ := h.get i i (by simp [hlt])
  rw [hi] at h1; cases h1; exact h2

theorem cells_spec {a : Addr} {n : Nat} {cs : List Value} (h : w.cells? base a n = some cs) : cs.length = n ∧ ∀ q (hq : q < cs.length), w.cell? (a.add q) = some cs[q] := by
  unfold World.cells? at h
  split at h
  · obtain ⟨h1, h2⟩ := all2_range (mapM_spec h)
    exact ⟨h1, fun q hq => h2 q _ (by simp [hq])⟩
  · cases h

theorem list_choice {α : Type} {R : Nat → α → Prop} : ∀ {n : Nat}, (∀ i, i < n → ∃ v, R i v) → ∃ xs : List α, xs.length = n ∧ ∀ j (h : j < xs.length), R j xs[j] := by
  intro n
  induction n generalizing R with
  | zero => intro _; exact ⟨[], rfl, fun j h => by simp at h⟩
  | succ n ih =>
    intro h
    obtain ⟨v, hv⟩ := h 0 (by omega)
    obtain ⟨xs, h1, h2⟩ := ih (R := fun i => R (i + 1)) fun i hi => h (i + 1) (by omega)
    refine ⟨v :: xs, by simp [h1], fun j hj => ?_⟩
    cases j with
    | zero => exact hv
    | succ j => exact h2 j (by simpa using hj)

theorem cell_lt {a : Addr} {v : Value} (h : w.cell? a = some v) : a.spot = none ∧ a.block < w.heap.size := by
  unfold World.cell? at h
  split at h
  · rename_i c _ _ hb
    split at h
    · cases h
    · rename_i hs
      exact ⟨by cases hh : a.spot with
        | none => rfl
        | some x => rw [hh] at hs; simp at hs, (Array.getElem?_eq_some_iff.1 hb).1⟩
  · cases h

theorem fields_rel {ok : Nat → Prop} {k : TypeId → Option Ty} {cs : List Value} : ∀ (fs : List Field) (o : Nat) (ty : Ty), typC.fieldsC P k o fs = some ty →
    (∀ f ∈ fs, ∀ a, k f.type = some a → ∃ v : a.D, TRel w ok a v ((cs.drop f.offset).take (P.cellsOf f.type))) → ∃ v : ty.D, TRel w ok ty v ((cs.drop o).take ty.size) := by
  intro fs
  induction fs with
  | nil => intro o ty h; cases h
  | cons f fs ih =>
    intro o ty h hf
    cases fs with
    | nil =>
      simp only [typC.fieldsC] at h
      split at h
      · rename_i a ha
        cases hb : (Nat.beq f.offset o && Nat.beq (P.cellsOf f.type) a.size) with
        | false => rw [hb] at h; cases h
        | true =>
          rw [hb] at h; cases h
          simp only [Bool.and_eq_true] at hb
          have h1 := Nat.eq_of_beq_eq_true hb.1
          have h2 := Nat.eq_of_beq_eq_true hb.2
          obtain ⟨v, hv⟩ := hf f (by simp) _ ha
          exact ⟨v, by rw [← h1, ← h2]; exact hv⟩
      · cases h
    | cons f' fs =>
      simp only [typC.fieldsC] at h
      split at h
      · rename_i a b ha hb'
        cases hb : (Nat.beq f.offset o && Nat.beq (P.cellsOf f.type) a.size) with
        | false => rw [hb] at h; cases h
        | true =>
          rw [hb] at h; cases h
          simp only [Bool.and_eq_true] at hb
          have h1 := Nat.eq_of_beq_eq_true hb.1
          have h2 := Nat.eq_of_beq_eq_true hb.2
          obtain ⟨v, hv⟩ := hf f (by simp) _ ha
          obtain ⟨u, hu⟩ := ih _ _ hb' fun g hg => hf g (by simp [hg])
          refine ⟨(v, u), _, _, ?_, hv, hu⟩
          rw [h1, h2, Ty.size, List.take_add, List.drop_drop]
      · cases h

theorem rep_rel {ok : Nat → Prop} {te : Ty} {cs : List Value} : ∀ (n o : Nat) (ty : Ty), typC.repC n te = some ty →
    (∀ i, i < n → ∃ v : te.D, TRel w ok te v ((cs.drop (o + i * te.size)).take te.size)) → ∃ v : ty.D, TRel w ok ty v ((cs.drop o).take ty.size) := by
  intro n
  induction n with
  | zero => intro o ty h; cases h
  | succ n ih =>
    intro o ty h hf
    cases n with
    | zero =>
      obtain rfl : te = ty := Option.some.inj h
      obtain ⟨v, hv⟩ := hf 0 (by omega)
      exact ⟨v, by simpa using hv⟩
    | succ n =>
      simp only [typC.repC] at h
      split at h
      · rename_i r hr
        cases h
        obtain ⟨v, hv⟩ := hf 0 (by omega)
        obtain ⟨u, hu⟩ := ih (o + te.size) _ hr fun i hi => by
          obtain ⟨v, hv⟩ := hf (i + 1) (by omega)
          refine ⟨v, ?_⟩
          rw [show o + te.size + i * te.size = o + (i + 1) * te.size by rw [Nat.succ_mul]; omega]
          exact hv
        refine ⟨(v, u), _, _, ?_, by simpa using hv, hu⟩
        rw [Ty.size, List.take_add, List.drop_drop]
      · cases h

/-- WHAT A READING READS IS TYPED DATA. -/
theorem trod_rel : ∀ (d : Nat) (t : TypeId) (ty : Ty), typC P d t = some ty → ∀ (fuel : Nat) (cs : List Value) (x : DataW H × List MemPlace), DataW.trod enc P w base spare held fuel t cs = some x →
    ∃ v : ty.D, TRel w (fun b => b < w.heap.size) ty v cs := by
  intro d
  induction d with
  | zero => intro t ty h; cases h
  | succ d ih =>
    intro t ty h fuel cs x hx
    cases fuel with
    | zero => cases hx
    | succ fuel =>
      simp only [typC] at h
      unfold DataW.trod at hx
      split at h <;> rename_i hu
      · cases h
        rw [hu] at hx
        split at hx <;> first | (cases hx; done) | (rename_i heq; cases heq; done) | skip
        rename_i k' n heq
        cases heq
        split at hx
        · rename_i hk
          obtain ⟨rfl, hwf⟩ := hk
          simp only [Lit.wf, Bool.and_eq_true, decide_eq_true_eq] at hwf
          exact ⟨n, rfl, hwf⟩
        · cases hx
      · cases h
        rw [hu] at hx
        split at hx <;> first | (cases hx; done) | (rename_i heq; cases heq; done) | skip
        rename_i b heq
        exact ⟨b, rfl⟩
      · cases h
        rw [hu] at hx
        split at hx <;> first | (cases hx; done) | (rename_i heq; cases heq; done) | skip
        rename_i s heq
        split at hx
        · rename_i hs
          exact ⟨s, rfl, by simpa [maxLen] using hs⟩
        · cases hx
      · rename_i e
        split at h
        · rename_i te he
          cases hb : (Nat.beq (P.cellsOf e) te.size && Nat.blt 0 te.size) with
          | false => rw [hb] at h; cases h
          | true =>
            rw [hb] at h; cases h
            simp only [Bool.and_eq_true] at hb
            have hce : P.cellsOf e = te.size := Nat.eq_of_beq_eq_true hb.1
            have h0 : 0 < te.size := by simpa [Nat.blt_eq] using hb.2
            rw [hu] at hx
            split at hx <;> first | (cases hx; done) | (rename_i heq; cases heq; done) | skip
            · exact ⟨[], none, 0, rfl, by simp, by simp, .inl ⟨rfl, rfl, rfl⟩⟩
            · rename_i e' a len cap heq
              cases heq
              split at hx
              · rename_i hc
                obtain ⟨hc1, hc2, hc3⟩ := hc
                simp only [Option.bind_eq_some_iff] at hx
                obtain ⟨elems, hm, _⟩ := hx
                obtain ⟨hl, hat⟩ := all2_range (mapM_spec hm)
                have hel : ∀ i, i < len → ∃ v : te.D, ∃ cs, TRel w (fun b => b < w.heap.size) te v cs ∧ w.cells? base (a.add (i * te.size)) te.size = some cs := by
                  intro i hi
                  have := hat i elems[i] (by simp [hl, hi])
                  rw [Option.bind_eq_some_iff] at this
                  obtain ⟨cs, g1, g2⟩ := this
                  obtain ⟨v, hv⟩ := ih e te he fuel cs _ g2
                  exact ⟨v, cs, hv, by rw [← hce]; exact g1⟩
                obtain ⟨xs, hxl, hxs⟩ := list_choice hel
                refine ⟨xs, some a, cap, by rw [hxl], by omega, by simpa [maxLen] using hc3, .inr ⟨a.block, a.off, ⟨a.spot, rfl, fun hne => ?_⟩, fun hne => ?_, fun j hj => ?_⟩⟩
                · -- the address is of a row
                  cases xs with
                  | nil => exact absurd rfl hne
                  | cons y ys =>
                    obtain ⟨cs, g1, g2⟩ := hxs 0 (by simp)
                    have hcl := cells_spec g2
                    have := hcl.2 0 (by omega)
                    simp only [Nat.zero_mul, Addr.add, if_true] at this
                    exact (cell_lt this).1
                · cases xs with
                  | nil => exact absurd rfl hne
                  | cons y ys =>
                    obtain ⟨cs, g1, g2⟩ := hxs 0 (by simp)
                    have hcl := cells_spec g2
                    have := hcl.2 0 (by omega)
                    simp only [Nat.zero_mul, Addr.add, if_true] at this
                    exact (cell_lt this).2
                · have hsp : a.spot = none := by
                    obtain ⟨cs, g1, g2⟩ := hxs 0 (by omega)
                    have hcl := cells_spec g2
                    have := hcl.2 0 (by omega)
                    simp only [Nat.zero_mul, Addr.add, if_true] at this
                    exact (cell_lt this).1
                  obtain ⟨cs, g1, g2⟩ := hxs j hj
                  refine ⟨cs, g1, fun q hq => ?_⟩
                  have := (cells_spec g2).2 q hq
                  obtain ⟨ab, ao, asp⟩ := a
                  obtain rfl : asp = none := hsp
                  rw [add_none, add_none] at this
                  exact this
              · cases hx
        · cases h
      · rename_i F
        split at h
        · rename_i ty' hf
          cases hb : Nat.beq (P.cellsOf t) ty'.size with
          | false => rw [hb] at h; cases h
          | true =>
            rw [hb] at h; cases h
            have hce := Nat.eq_of_beq_eq_true hb
            rw [hu] at hx
            split at hx <;> first | (cases hx; done) | (rename_i heq; cases heq; done) | (exfalso; rename_i h1 h2 _ _ _ _ _ _ _ _ _ _ _ _ _ _ _ _ _ _ _; exact h1 _ rfl) | (exfalso; solve_by_elim) | skip
            rename_i cs1 x1 cs2 fs heq
            cases heq
            split at hx
            · rename_i hl
              rw [Option.map_eq_some_iff] at hx
              obtain ⟨xs, hm, _⟩ := hx
              obtain ⟨v, hv⟩ := fields_rel (w := w) (ok := fun b => b < w.heap.size) (cs := cs1) F.toList 0 _ hf fun f hmem a ha => by
                obtain ⟨i, hi⟩ := List.getElem?_of_mem hmem
                obtain ⟨y, _, hy⟩ := (mapM_spec hm).get i f hi
                exact ih f.type a ha fuel _ _ hy
              refine ⟨v, ?_⟩
              rw [List.drop_zero, List.take_of_length_le (by omega)] at hv
              exact hv
            · cases hx
        · cases h
      · rename_i n e
        split at h
        · rename_i te he
          cases hb1 : Nat.beq (P.cellsOf e) te.size with
          | false => rw [hb1] at h; cases h
          | true =>
            rw [hb1] at h
            simp only [cond_true] at h
            split at h
            · rename_i ty' hr
              cases hb : Nat.beq (P.cellsOf t) ty'.size with
              | false => rw [hb] at h; cases h
              | true =>
                rw [hb] at h; cases h
                have hce := Nat.eq_of_beq_eq_true hb
                have hce1 := Nat.eq_of_beq_eq_true hb1
                rw [hu] at hx
                split at hx <;> first | (cases hx; done) | (rename_i heq; cases heq; done) | (exfalso; solve_by_elim) | skip
                rename_i cs1 x1 cs2 n' e' heq
                cases heq
                split at hx
                · rename_i hl
                  rw [Option.map_eq_some_iff] at hx
                  obtain ⟨xs, hm, _⟩ := hx
                  obtain ⟨hlx, hat⟩ := all2_range (mapM_spec hm)
                  obtain ⟨v, hv⟩ := rep_rel (w := w) (ok := fun b => b < w.heap.size) (cs := cs1) n 0 _ hr fun i hi => by
                    have := hat i xs[i] (by simp [hlx, hi])
                    rw [hce1] at this
                    rw [Nat.zero_add]
                    exact ih e te he fuel _ _ this
                  refine ⟨v, ?_⟩
                  rw [List.drop_zero, List.take_of_length_le (by omega)] at hv
                  exact hv
                · cases hx
            · cases h
        · cases h
      · cases h

/-! ### Arguments -/
theorem okWide_one {r : Reach} {b : Nat} {t : TypeId} {v : Value} {D : TypeDesc} (hu : P.underlying t = some D) (hD : Agg D = false) (h : Value.okWide P w r b t v) : v.cells.toList = [v] := by
  cases v with
  | agg cs =>
    exfalso
    unfold Value.okWide at h
    rw [hu] at h
    cases D <;> first | (cases hD; done) | (simp [Cell.okWide, Cell.ok, hu] at h; done)
  | _ => rfl

theorem arg_scal {r : Reach} {b d fuel : Nat} {t : TypeId} {ty : Ty} {v : Value} {D : TypeDesc} {x : DataW H × List MemPlace} (ht : typC P d t = some ty) (hu : P.underlying t = some D) (hD : Agg D = false) (hp : ty.isAgg = false)
    (h : Value.okWide P w r b t v) (hx : DataW.trod enc P w base spare held fuel t v.cells.toList = some x) : ∃ y : ty.D, AVRel w μ0 (argOK fun b => b < w.heap.size) (encV ty y) v := by
  obtain ⟨y, hy⟩ := trod_rel d t ty ht fuel _ _ hx
  rw [okWide_one hu hD h] at hy
  refine ⟨y, ?_⟩
  cases ty with
  | int k =>
    have := hy
    obtain ⟨e, hk⟩ := this
    simp only [List.cons.injEq, and_true] at e
    exact ⟨e, hk⟩
  | bool =>
    have e : [v] = [Value.bool y] := hy
    simp only [List.cons.injEq, and_true] at e
    exact e
  | str =>
    obtain ⟨e, hk⟩ := hy
    simp only [List.cons.injEq, and_true] at e
    exact ⟨e, hk⟩
  | sl te => exact ⟨TRel.mono (ok' := argOK (fun b => b < w.heap.size) false) (fun _ _ => rfl) (fun b hb => ⟨rfl, hb⟩) hy, trivial⟩
  | pair a b => cases hp
  | unit => cases hp

theorem arg_agg {r : Reach} {b d fuel : Nat} {t : TypeId} {ta tb : Ty} {v : Value} {D : TypeDesc} {x : DataW H × List MemPlace} (ht : typC P d t = some (.pair ta tb)) (hu : P.underlying t = some D) (hD : Agg D = true)
    (h : Value.okWide P w r b t v) (hx : DataW.trod enc P w base spare held fuel t v.cells.toList = some x) : ∃ y : (Ty.pair ta tb).D, AVRel w μ0 (argOK fun b => b < w.heap.size) (encV (.pair ta tb) y) v := by
  obtain ⟨y, hy⟩ := trod_rel d t _ ht fuel _ _ hx
  have hv : ∃ cs, v = .agg cs := by
    unfold Value.okWide at h
    rw [hu] at h
    cases D <;> first | (cases hD; done) | (obtain ⟨cs, e, _⟩ := h; exact ⟨cs, e⟩)
  obtain ⟨cs, rfl⟩ := hv
  refine ⟨y, cs.toList, by simp, ?_⟩
  exact enc_rel (fr := false) (TRel.mono (ok' := argOK (fun b => b < w.heap.size) false) (fun _ _ => rfl) (fun b hb => ⟨rfl, hb⟩) hy)
end

end Go.AM
