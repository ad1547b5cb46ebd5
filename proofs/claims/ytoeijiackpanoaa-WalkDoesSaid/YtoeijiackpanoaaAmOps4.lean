/- An abstract machine over the model's own code: literals, make, len, slicing, closures. -/
import Derived.Test.YtoeijiackpanoaaAmOps3
set_option linter.unusedVariables false
set_option linter.unusedSimpArgs false
namespace Go.AM

section
variable {P : Program} {mine : Cx} {w0 : World} {st : St} {a : Act} {w : World} {μ : Locs} {ok : OK} {tb : Tab}

def PartsRel (w : World) (μ : Locs) (ok : OK) : List (Nat × AV) → List (Nat × Value) → Prop := All2 fun (p : Nat × AV) (q : Nat × Value) => p.1 = q.1 ∧ AVRel w μ ok p.2 q.2

theorem run_places (l : List Field) (h : ∀ f ∈ l, ∃ fi, P.info? f.type = some fi) :
    ((l.mapM fun f => (do pure (f.offset, ← Go.sizeOf f.type) : Sem (Nat × Nat))).run P w) = .ok (l.map fun f => (f.offset, ((P.info? f.type).map (·.size)).getD 0)) w := by
  induction l with
  | nil => simp
  | cons f l ih =>
    obtain ⟨fi, hfi⟩ := h f (by simp)
    have ih' := ih (fun g hg => h g (by simp [hg]))
    simp only [List.mapM_cons, Sem.run_bind, Go.sizeOf, typeInfo, run_program, Result.andThen_ok, hfi, Sem.run_pure, Option.map_some, Option.getD_some, List.map_cons] at ih' ⊢
    rw [ih']; simp

theorem fill_congr {p q : Nat → Option (Nat × Nat)} (h : ∀ i, p i = q i) (cells : Array Value) (l : List (Nat × Value)) : Instr.fill p cells l = Instr.fill q cells l := by
  rw [show p = q from funext h]

theorem build_gives (hP : TabOk P tb) (F : Facts mine w0 st a.tmps w μ ok) {T : TypeId} {parts : List (Nat × AV)} {vparts : Array (Nat × Value)} {v : AV} (hp : PartsRel w μ ok parts vparts.toList)
    (h : evBuild tb T parts = some (true, v)) : Gives P mine w0 st a w μ ok (Instr.build T vparts) v := by
  unfold evBuild at h
  split at h
  · rename_i n z fs eqk hT
    split at h
    · rename_i cs hf
      cases h
      obtain ⟨i, Fs, zv, e1, e2, e3, e4, e5, e6, e7, e8, _⟩ := hP T _ hT
      obtain ⟨zv', z1, z2⟩ := (hP T _ hT).zero (w := w)
      have hfs : ∀ (j : Nat) (f : Field), Fs[j]? = some f → ∃ fi b, P.info? f.type = some fi ∧ fs[j]? = some (f.offset, fi.size, b) := by
        intro j f hj
        have hlt : j < fs.length := by
          have := (Array.getElem?_eq_some_iff.1 hj).1; omega
        obtain ⟨⟨o, m, b⟩, hh⟩ : ∃ x, fs[j]? = some x := ⟨_, List.getElem?_eq_getElem hlt⟩
        obtain ⟨f', fi, fd, k1, k2, k3, k4, _⟩ := e8 j o m b hh
        rw [hj] at k1; cases k1
        exact ⟨fi, b, k3, by rw [hh, k2, k4]⟩
      have hpl := run_places (P := P) (w := w) Fs.toList (fun f hf => by
        obtain ⟨j, hj⟩ := List.getElem?_of_mem hf
        obtain ⟨fi, b, h1, _⟩ := hfs j f (by simpa using hj)
        exact ⟨fi, h1⟩)
      have hplace : ∀ i : Nat, structPlace fs i = (Fs.toList.map fun f => (f.offset, ((P.info? f.type).map (·.size)).getD 0)).toArray[i]? := by
        intro i
        unfold structPlace
        simp only [List.getElem?_toArray, List.getElem?_map, Array.getElem?_toList]
        cases hj : Fs[i]? with
        | none =>
          have : fs.length ≤ i := by rw [← e7]; exact Array.getElem?_eq_none_iff.1 hj
          simp [List.getElem?_eq_none this]
        | some f =>
          obtain ⟨fi, b, h1, h2⟩ := hfs i f hj
          simp [h2, h1]
      obtain ⟨c, f1, f2⟩ := fill_rel (z2 w μ ok) hp hf
      refine Gives.pure F (x := .agg c) ?_ rfl ⟨c.toList, by simp, f2⟩
      unfold Instr.build
      simp only [Sem.run_bind, z1, Result.andThen_ok, underlying, run_program, e3, Sem.run_pure]
      have hm : (Fs.mapM fun f => (do pure (f.offset, ← Go.sizeOf f.type) : Sem (Nat × Nat))).run P w = .ok (Fs.toList.map fun f => (f.offset, ((P.info? f.type).map (·.size)).getD 0)).toArray w := by
        conv => lhs; rw [show Fs = Fs.toList.toArray by simp]
        rw [List.mapM_toArray]
        simp only [Sem.run_map, hpl, Result.andThen_ok]
      rw [hm]
      simp only [Result.andThen_ok]
      rw [fill_congr (fun i => (hplace i).symm)]
      rw [f1]
      simp
    · cases h
  · rename_i n z eqk hT
    split at h
    · rename_i cs hf
      cases h
      obtain ⟨i, zv, e, ei, ed, _, _, e3, _, _, _, e7, e8, _⟩ := hP T _ hT
      obtain ⟨zv', z1, z2⟩ := (hP T _ hT).zero (w := w)
      obtain ⟨c, f1, f2⟩ := fill_rel (z2 w μ ok) hp hf
      refine Gives.pure F (x := .agg c) ?_ rfl ⟨c.toList, by simp, f2⟩
      unfold Instr.build
      simp only [Sem.run_bind, z1, Result.andThen_ok, underlying, run_program, e3, Sem.run_pure, Go.sizeOf, typeInfo, e7, e8, Nat.mul_one]
      rw [f1]
      simp
    · cases h
  · cases h

/-! ### A slice's literal -/
theorem fold_get (vs : List Value) (off : Nat) (cs : Array Value) (h : off + vs.length ≤ cs.size) (i : Nat) :
    (vs.toArray.zipIdx.foldl (fun cs (p : Value × Nat) => cs.setIfInBounds (off + p.2) p.1) cs)[i]? = if off ≤ i ∧ i < off + vs.length then vs[i - off]? else cs[i]? := by
  have e : (vs.toArray.zipIdx.foldl (fun cs (p : Value × Nat) => cs.setIfInBounds (off + p.2) p.1) cs).toList = cs.toList.take off ++ vs ++ cs.toList.drop (off + vs.length) := by
    rw [← Array.foldl_toList, Array.toList_zipIdx]
    simpa using foldl_set vs off 0 cs (by simpa using h)
  rw [← Array.getElem?_toList, e, ← Array.getElem?_toList]
  simp only [List.append_assoc, List.getElem?_append, List.length_take, Array.length_toList, List.getElem?_take, List.getElem?_drop]
  have hm : min off cs.size = off := by omega
  rw [hm]
  by_cases h1 : i < off
  · simp [h1, show ¬ (off ≤ i ∧ i < off + vs.length) by omega]
  · by_cases h2 : i - off < vs.length
    · simp [h1, h2, show off ≤ i ∧ i < off + vs.length by omega]
    · simp [h1, h2, show ¬ (off ≤ i ∧ i < off + vs.length) by omega]
      congr 1
      omega

theorem fold_size (vs : List Value) (off : Nat) (cs : Array Value) : (vs.toArray.zipIdx.foldl (fun cs (p : Value × Nat) => cs.setIfInBounds (off + p.2) p.1) cs).size = cs.size := by
  rw [← Array.foldl_toList]
  have : ∀ (l : List (Value × Nat)) (cs : Array Value), (l.foldl (fun cs (p : Value × Nat) => cs.setIfInBounds (off + p.2) p.1) cs).size = cs.size := by
    intro l
    induction l with
    | nil => intro cs; rfl
    | cons p l ih => intro cs; rw [List.foldl_cons, ih]; simp
  exact this _ _

theorem lit_fill {t : Ty} (hT : ∀ b, ok true b → ok false b) {n : Nat} : ∀ {parts : List (Nat × AV)} {vparts : List (Nat × Value)} {k : Nat} {xs : List t.D} {f : Bool} {cells : Array Value},
    PartsRel w μ ok parts vparts → litElems t k parts = some (xs, f) → k + parts.length ≤ n → cells.size = n * t.size →
    ∃ c, Instr.fill (fun i => some (i * t.size, t.size)) cells vparts = some c ∧ c.size = cells.size ∧ (∀ i, i < k * t.size → c[i]? = cells[i]?) ∧ xs.length = parts.length ∧
      ∀ j (h : j < xs.length), ∃ cs, TRel w (ok f) t xs[j] cs ∧ ∀ q (hq : q < cs.length), c[(k + j) * t.size + q]? = some cs[q] := by
  intro parts
  induction parts with
  | nil =>
    intro vparts k xs f cells hp hl hn hs
    cases hp
    simp only [litElems, Option.some.injEq, Prod.mk.injEq] at hl
    obtain ⟨rfl, rfl⟩ := hl
    exact ⟨cells, rfl, rfl, fun _ _ => rfl, rfl, fun j hj => by simp at hj⟩
  | cons p parts ih =>
    intro vparts k xs f cells hp hl hn hs
    obtain ⟨i, x⟩ := p
    cases hp with
    | @cons _ q _ vparts hpq ht =>
      obtain ⟨i', v⟩ := q
      obtain ⟨rfl, hx⟩ := hpq
      simp only [litElems] at hl
      cases hik : Nat.beq i k with
      | false => simp [hik] at hl
      | true =>
        obtain rfl : i = k := Nat.eq_of_beq_eq_true hik
        simp only [hik, cond_true] at hl
        split at hl
        · rename_i vs hc
          split at hl
          · rename_i y fy ys fs hd hr
            simp only [Option.some.injEq, Prod.mk.injEq] at hl
            obtain ⟨rfl, rfl⟩ := hl
            have hv := cellsOf_rel hx hc
            have htr := decAll_rel hT hv hd
            have hlen : v.cells.toList.length = t.size := htr.length
            have hlen' : v.cells.size = t.size := by simpa using hlen
            simp only [List.length_cons] at hn
            have hbnd : i * t.size + v.cells.toList.length ≤ cells.size := by
              rw [hlen, hs, ← Nat.succ_mul]
              exact Nat.mul_le_mul_right _ (by omega)
            have hg := fold_get v.cells.toList (i * t.size) cells hbnd
            simp only [Array.toArray_toList] at hg
            have hsz := fold_size v.cells.toList (i * t.size) cells
            simp only [Array.toArray_toList] at hsz
            obtain ⟨c, c1, c2, c3, c4, c5⟩ := ih (k := i + 1) (cells := v.cells.zipIdx.foldl (fun cs (p : Value × Nat) => cs.setIfInBounds (i * t.size + p.2) p.1) cells) ht hr (by omega) (by rw [hsz]; exact hs)
            refine ⟨c, ?_, by rw [c2, hsz], fun j hj => ?_, by simp [c4], fun j hj => ?_⟩
            · simp only [Instr.fill]
              rw [if_neg (by simp only [hlen', ne_eq, not_true_eq_false, Bool.or_eq_true, decide_eq_true_eq, false_or]; simp; simp at hbnd; omega)]
              exact c1
            · rw [c3 j (by rw [Nat.succ_mul]; omega), hg j, if_neg (by omega)]
            · cases j with
              | zero =>
                refine ⟨v.cells.toList, ?_, fun q hq => ?_⟩
                · exact TRel.mono (fun _ _ => rfl) (fun b hb => by
                    cases fs with
                    | true => simpa using hb
                    | false => cases fy with
                      | true => simpa using hT b hb
                      | false => simpa using hb) htr
                · rw [Nat.add_zero, c3 _ (by rw [Nat.succ_mul]; omega), hg, if_pos (by omega)]
                  simp [show i * t.size + q - i * t.size = q by omega]
              | succ j =>
                simp only [List.length_cons, Nat.succ_lt_succ_iff] at hj
                obtain ⟨cs, d1, d2⟩ := c5 j hj
                refine ⟨cs, ?_, fun q hq => ?_⟩
                · simp only [List.getElem_cons_succ]
                  exact TRel.mono (fun _ _ => rfl) (fun b hb => by
                    cases fy with
                    | true => simpa using hb
                    | false => cases fs with
                      | true => simpa using hT b hb
                      | false => simpa using hb) d1
                · rw [show i + (j + 1) = i + 1 + j by omega]; exact d2 q hq
          · cases hl
        · cases hl

/-- Zero cells, over and over. -/
theorem zeros_get {t : Ty} {ze : Value} (hz : ze.cells.size = t.size) (h0 : 0 < t.size) (n i : Nat) (h : i < n) :
    ((Array.range n).map (fun x => ze.cells[x % ze.cells.size]!))[i]? = ze.cells[i % t.size]? := by
  have hlt : i % t.size < ze.cells.size := by rw [hz]; exact Nat.mod_lt _ h0
  simp [h, hz, Array.getElem!_eq_getD, Array.getD_eq_getD_getElem?, Array.getElem?_eq_getElem hlt]

theorem lit_gives (hP : TabOk P tb) (F : Facts mine w0 st a.tmps w μ ok) {T n : Nat} {parts : List (Nat × AV)} {vparts : Array (Nat × Value)} {v : AV} (hp : PartsRel w μ ok parts vparts.toList)
    (h : evLit tb T n parts = some (true, v)) : Gives P mine w0 st a w μ ok (Instr.buildSlice T n vparts) v := by
  unfold evLit at h
  split at h
  · rename_i e t bytes hT
    split at h
    · rename_i xs f hl
      cases hc : (Nat.beq parts.length n && Nat.ble (n * t.size) 65536) with
      | false => simp [hc] at h
      | true =>
        simp only [hc, cond_true, Option.some.injEq, Prod.mk.injEq, true_and] at h
        subst h
        simp only [Bool.and_eq_true] at hc
        have hc1 : parts.length = n := Nat.eq_of_beq_eq_true hc.1
        have hc2 : n * t.size ≤ 65536 := Nat.le_of_ble_eq_true hc.2
        obtain ⟨i, ei, ze, e1, e2, e3, e4, e5, e6, e7, e8, e9, e10, e11⟩ := hP T _ hT
        let zeros : Array Value := if n * t.size = 0 then #[] else (Array.range (n * t.size)).map (fun x => ze.cells[x % ze.cells.size]!)
        have hzs : ((Array.range (n * t.size)).map (fun x => (if n * t.size = 0 then #[] else ze.cells)[x % (if n * t.size = 0 then #[] else ze.cells).size]!)).size = n * t.size := by simp
        obtain ⟨c, c1, c2, c3, c4, c5⟩ := lit_fill (n := n) (k := 0) F.okT hp hl (by omega) hzs
        have hlen : xs.length = n := by rw [c4, hc1]
        have hrun : (Instr.buildSlice T n vparts).run P w = .ok (.slice (some ⟨w.heap.size, 0, none⟩) n n) (w.alloc (.cells c e)) := by
          unfold Instr.buildSlice
          simp only [Sem.run_bind, underlying, run_program, Result.andThen_ok, e4, Sem.run_pure, Go.sizeOf, typeInfo, e5, e6]
          rw [if_neg (by omega)]
          by_cases h0 : n * t.size = 0
          · simp only [h0, if_true, Sem.run_pure, Result.andThen_ok] at c1 ⊢
            simp only [Sem.run_bind, Sem.run_pure, Result.andThen_ok, c1, newRow, run_newObj]
            rfl
          · simp only [h0, if_false] at c1 ⊢
            simp only [Sem.run_bind, zeroValue, typeInfo, run_program, Result.andThen_ok, e5, Sem.run_pure, e8, c1, newRow, run_newObj]
            rfl
        have hcs : c.size = n * t.size := by rw [c2]; simp
        refine ⟨_, _, ok, hrun, F.alloc _, ⟨⟨some w.heap.size, n, n⟩, rfl, ⟨hlen.symm, Nat.le_refl _, ?_, .inr ⟨w.heap.size, c, e, rfl, heap_at_new w _, by rw [hcs]; exact Nat.le_refl _, ?_⟩⟩, ?_⟩, .alloc _ (by rintro b (h | ⟨n, c, h⟩ | h) <;> simp at h; exact h.1.symm)⟩
        · show n ≤ _
          have : n * 1 ≤ n * t.size := Nat.mul_le_mul_left _ e11
          omega
        · intro j hj
          obtain ⟨cs, d1, d2⟩ := c5 j hj
          exact ⟨cs, TRel.mono (fun b hb => RowKit.Below.heap_alloc _ _ _ (F.okB b (F.ok_any hb))) (fun _ h => h) d1, fun q hq => by simpa using d2 q hq⟩
        · intro b hb; cases hb; exact F.freshNew _
    · cases h
  · cases h

theorem i64_in (n : Int) (h : -9223372036854775808 ≤ n ∧ n ≤ 9223372036854775807) : IntKind.i64.wrap n = n := by
  unfold IntKind.wrap; simp [IntKind.signed, IntKind.bits]; split <;> omega

theorem make_gives (hP : TabOk P tb) (F : Facts mine w0 st a.tmps w μ ok) {T : TypeId} {l c v : AV} {lv cv' : Value} (hl : AVRel w μ ok l lv) (hc : AVRel w μ ok c cv')
    (h : evMake tb T l c = some (true, v)) : Gives P mine w0 st a w μ ok (Instr.makeSlice T lv cv') v := by
  unfold evMake at h
  split at h
  · rename_i e t bytes l c hT
    simp only [Option.some.injEq, Prod.mk.injEq, Bool.and_eq_true, decide_eq_true_eq] at h
    obtain ⟨⟨⟨h0, h1⟩, h2⟩, rfl⟩ := h
    obtain ⟨rfl, hl'⟩ := (hl : SVRel w μ ok (.int .i64 l) lv)
    obtain ⟨rfl, hc'⟩ := (hc : SVRel w μ ok (.int .i64 c) cv')
    obtain ⟨i, ei, ze, e1, e2, e3, e4, e5, e6, e7, e8, e9, e10, e11⟩ := hP T _ hT
    have hrange : ∀ n : Int, IntKind.has .i64 n → IntKind.i64.wrap n = n := by
      intro n hn
      unfold IntKind.has IntKind.min IntKind.max at hn
      simp [IntKind.signed, IntKind.bits] at hn
      exact i64_in n (by omega)
    have hcells : ze.cells.size = t.size := by have := (e9 w (ok true)).length; simpa using this
    have hbytes : (1 : Int) ≤ bytes := by omega
    have hcb : c ≤ 281474976710656 := by
      have : 1 * c ≤ (bytes : Int) * c := Int.mul_le_mul_of_nonneg_right hbytes (by omega)
      omega
    let cells : Array Value := (Array.range (c.toNat * t.size)).map (fun x => ze.cells[x % ze.cells.size]!)
    have hrun : (Instr.makeSlice T (.int .i64 l) (.int .i64 c)).run P w = .ok (.slice (some ⟨w.heap.size, 0, none⟩) l.toNat c.toNat) (w.alloc (.cells cells e)) := by
      unfold Instr.makeSlice
      have ht : ∀ w, (typeInfo e).run P w = .ok ei w := by intro w; simp [typeInfo, e5]
      have hs : ∀ w, (Go.sizeOf e).run P w = .ok t.size w := by intro w; simp [Go.sizeOf, typeInfo, e5, e6]
      have hzv : ∀ w, (zeroValue e).run P w = .ok ze w := by intro w; simp [zeroValue, typeInfo, e5, e8]
      simp only [Sem.run_bind, underlying, run_program, Result.andThen_ok, e4, Sem.run_pure, asInt, asIntOf, ht, hs, hzv, e7, hrange l hl', hrange c hc']
      rw [if_neg (by
        simp only [Bool.or_eq_true, decide_eq_true_eq]
        intro hh
        rcases hh with (hh | hh) | hh
        · rcases hh with hh | hh
          · omega
          · have : (2 : Int) ^ 48 = 281474976710656 := by decide
            omega
        · omega
        · omega)]
      by_cases hz : c.toNat * t.size = 0
      · have hc0 : cells = #[] := by simp [cells, hz]
        simp only [Sem.run_bind, run_askRoom, Result.andThen_ok, hs, hz, if_true, Sem.run_pure, newRow, run_newObj, hc0]
        simp
        rw [show (Array.map (fun (x : Nat) => (default : Value)) (Array.range 0)) = #[] from Array.eq_empty_of_size_eq_zero (by simp)]
      · simp only [Sem.run_bind, run_askRoom, Result.andThen_ok, hs, hz, if_false, Sem.run_pure, newRow, run_newObj, hzv]
        rfl
    refine ⟨_, _, ok, hrun, F.alloc _, ⟨⟨some w.heap.size, l.toNat, c.toNat⟩, rfl, ⟨by simp, by show l.toNat ≤ c.toNat; omega, by show c.toNat ≤ _; omega,
      .inr ⟨w.heap.size, cells, e, rfl, heap_at_new w _, by simp [cells], fun j hj => ⟨ze.cells.toList, ?_, fun q hq => ?_⟩⟩⟩, ?_⟩, .alloc _ (by rintro b (h | ⟨n, c, h⟩ | h) <;> simp at h; exact h.1.symm)⟩
    · simp only [List.getElem_replicate]
      exact e9 _ _
    · simp only [List.length_replicate] at hj
      have hq' : q < t.size := by simpa [hcells] using hq
      have hlt : j * t.size + q < c.toNat * t.size := by
        have : (j + 1) * t.size ≤ c.toNat * t.size := Nat.mul_le_mul_right _ (by omega)
        rw [Nat.succ_mul] at this; omega
      show cells[j * t.size + q]? = _
      rw [zeros_get hcells e11 _ _ hlt, Nat.mul_comm, Nat.mul_add_mod, Nat.mod_eq_of_lt hq']
      simp only [Array.length_toList] at hq
      simp [hq]
    · intro b hb; cases hb; exact F.freshNew _
  · cases h
end

end Go.AM
