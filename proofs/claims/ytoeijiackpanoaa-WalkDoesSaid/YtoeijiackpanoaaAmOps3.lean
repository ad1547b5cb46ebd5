/- An abstract machine over the model's own code: loads, addresses, what is built and made. -/
import Derived.Test.YtoeijiackpanoaaAmOps2
set_option linter.unusedVariables false
set_option linter.unusedSimpArgs false
namespace Go.AM

section
variable {P : Program} {mine : Cx} {w0 : World} {st : St} {a : Act} {w : World} {μ : Locs} {ok : OK} {tb : Tab}

theorem one_of {x : SV} {v : Value} (hj : x ≠ .junk) (h : AVRel w μ ok (.one x) v) : SVRel w μ ok x v := by rwa [AVRel.eq1 hj] at h

theorem load_gives (hP : TabOk P tb) (F : Facts mine w0 st a.tmps w μ ok) {T : TypeId} {p v : AV} {pv : Value} (hp : AVRel w μ ok p pv) (h : evLoad tb st T p = some (true, v)) :
    Gives P mine w0 st a w μ ok (Instr.loadAt T pv) v := by
  unfold evLoad at h
  split at h
  · rename_i ti p hT
    split at h
    · rename_i cs hc
      cases hn : Nat.beq cs.length ti.size with
      | false => simp [hn] at h
      | true =>
        have hn' := Nat.eq_of_beq_eq_true hn
        simp only [hn, cond_true] at h
        split at h
        · rename_i v' hv
          simp only [Option.some.injEq, Prod.mk.injEq, true_and] at h
          subst h
          have hj : p ≠ .junk := by intro e; subst e; simp [ldCells] at hc
          obtain ⟨b, o, vs, rfl, g1, g2, g3⟩ := ldCells_rel F (one_of hj hp) hc hn'
          obtain ⟨ho, hr⟩ := asVal_rel g3 hv
          have hrun := run_loadAt hP hT g1 g2 (by
            intro hf
            rcases hr with ⟨e, _⟩ | ⟨_, x, e, _⟩
            · rw [hf] at e; cases e
            · exact ⟨x, e⟩)
          rcases hr with ⟨e, hr⟩ | ⟨e, x, rfl, hr⟩
          · rw [e] at hrun; exact Gives.pure F hrun ho hr
          · rw [e] at hrun; exact Gives.pure F hrun ho hr
        · cases h
    · cases h
  · cases h

theorem addOff_rel {p q : SV} {v : Value} {o : Nat} (hp : SVRel w μ ok p v) (h : addOff p o = some q) : ∃ b x, v = .pointer (some ⟨b, x, none⟩) ∧ SVRel w μ ok q (.pointer (some ⟨b, x + o, none⟩)) ∧ q ≠ .junk := by
  cases p <;> simp only [addOff] at h <;> try (cases h; done)
  · cases h
    obtain ⟨b, h1, rfl⟩ := hp
    exact ⟨b, _, rfl, ⟨b, h1, rfl⟩, by simp⟩
  · cases h
    obtain ⟨b, h1, rfl, h2⟩ := hp
    exact ⟨b, _, rfl, ⟨b, h1, by rw [Nat.add_assoc], h2⟩, by simp⟩
  · cases h
    obtain ⟨b, x, cs, rfl, h1, h2, h3⟩ := hp
    exact ⟨b, _, rfl, ⟨b, x, cs, by rw [Nat.add_assoc], h1, h2, h3⟩, by simp⟩

theorem fieldAddr_gives (hP : TabOk P tb) (F : Facts mine w0 st a.tmps w μ ok) {T f : Nat} {p v : AV} {pv : Value} (hp : AVRel w μ ok p pv) (h : evFieldAddr tb T p f = some (true, v)) :
    Gives P mine w0 st a w μ ok (Instr.fieldAt T pv f) v := by
  unfold evFieldAddr at h
  split at h
  · rename_i n z fs eqk p hT
    split at h
    · rename_i o m b hf
      split at h
      · rename_i q hq
        simp only [Option.some.injEq, Prod.mk.injEq, true_and] at h
        subst h
        have hj : p ≠ .junk := by intro e; subst e; simp [addOff] at hq
        obtain ⟨b', x, rfl, h2, h3⟩ := addOff_rel (one_of hj hp) hq
        obtain ⟨i, Fs, zv, _, _, e3, _, _, _, _, e8, _⟩ := hP T _ hT
        obtain ⟨fd, fi, fdd, k1, k2, k3, k4, k5, _⟩ := e8 f o m b hf
        refine Gives.pure F (x := .pointer (some ⟨b', x + o, none⟩)) ?_ rfl (by rw [AVRel.eq1 h3]; exact h2)
        have hm : ¬ m = 0 := by omega
        simp [Instr.fieldAt, underlying, e3, k1, Instr.sureAddr, fieldPlace, Go.sizeOf, typeInfo, k3, k4, hm, add_none, k2]
      · cases h
    · cases h
  · cases h

theorem inB_iff {i : Int} {n : Nat} : inB i n = true ↔ 0 ≤ i ∧ i < (n : Int) := by simp [inB]

theorem TRel.slAddr {w : World} {okf : Nat → Prop} {t : Ty} {xs : List t.D} {v : Value} (h : TRel w okf (.sl t) xs [v]) : ∃ A c, v = .slice A xs.length c ∧
    ∀ j (hj : j < xs.length), ∃ b o cs, A = some ⟨b, o, none⟩ ∧ okf b ∧ TRel w okf t xs[j] cs ∧ Cells w b (o + j * t.size) cs := by
  obtain ⟨A, c, e, h1, h2, h3⟩ := h
  simp only [List.cons.injEq, and_true] at e
  refine ⟨A, c, e, fun j hj => ?_⟩
  rcases h3 with ⟨_, h3, _⟩ | ⟨b, o, ⟨sp, rfl, hsp⟩, hb, h3⟩
  · subst h3; simp at hj
  · obtain rfl := hsp (by intro e0; simp [e0] at hj)
    obtain ⟨cs, h4, h5⟩ := h3 j hj
    exact ⟨b, o, cs, rfl, hb (by intro e0; simp [e0] at hj), h4, h5⟩

theorem getD_at {α : Type} (xs : List α) (d : α) {i : Nat} (h : i < xs.length) : xs.getD i d = xs[i] := by simp [List.getD_eq_getElem?_getD, h]

theorem indexAddr_gives (hP : TabOk P tb) (F : Facts mine w0 st a.tmps w μ ok) {T : TypeId} {x i v : AV} {xv iv : Value} (hx : AVRel w μ ok x xv) (hi : AVRel w μ ok i iv)
    (h : evIndexAddr tb st T x i = some (true, v)) : Gives P mine w0 st a w μ ok (Instr.indexAt T xv iv) v := by
  unfold evIndexAddr at h
  split at h
  · rename_i e t bytes fr t' nl xs k i hT
    split at h
    · rename_i ys hc
      obtain ⟨rfl, rfl⟩ := castL_eq hc
      simp only [Option.some.injEq, Prod.mk.injEq, inB_iff] at h
      obtain ⟨⟨h0, h1⟩, rfl⟩ := h
      obtain ⟨rfl, _⟩ := (hi : SVRel w μ ok (.int k i) iv)
      obtain ⟨ti, ei, ze, _, _, _, e4, e5, e6, _⟩ := hP T _ hT
      have hx' : SVRel w μ ok (.sl fr t' nl xs) xv := hx
      obtain ⟨A, c, rfl, hA⟩ := hx'.1.slAddr
      have hlt : i.toNat < xs.length := by omega
      obtain ⟨b, o, cs, rfl, g1, g2, g3⟩ := hA i.toNat hlt
      refine Gives.pure F (x := .pointer (some ⟨b, o + i.toNat * t'.size, none⟩)) ?_ rfl ?_
      · simp [Instr.indexAt, asIntOf, underlying, e4, h0, h1, Go.sizeOf, typeInfo, e5, e6, add_none]
      · refine ⟨b, _, cs, rfl, g1, ?_, g3⟩
        show TRel w (ok fr) t' (xs.getD i.toNat t'.dflt) cs
        rw [getD_at _ _ hlt]; exact g2
    · cases h
  · rename_i e t bytes s n k i hT
    obtain ⟨rfl, _⟩ := (hi : SVRel w μ ok (.int k i) iv)
    obtain ⟨ti, ei, ze, _, _, _, e4, e5, e6, _⟩ := hP T _ hT
    split at h
    · rename_i fr t' xs hs
      cases hz : Nat.beq t.size t'.size with
      | false => simp [hz] at h
      | true =>
        have hz' : t.size = t'.size := Nat.eq_of_beq_eq_true hz
        simp only [hz, cond_true] at h
        have ho := F.owns s
        rw [hs] at ho
        obtain ⟨k1, k2, k3, k4⟩ := ho
        have hx' : SVRel w μ ok (.hot s n) xv := hx
        obtain ⟨rfl, hm, _⟩ := hx'
        have fin : ∀ m : Nat, n.getD (μ s).len = m → m ≤ (μ s).len → 0 ≤ i → i < (m : Int) → v = .one (.hptr s t'.size i 0) → Gives P mine w0 st a w μ ok (Instr.indexAt T (slv (μ s) n) (.int k i)) v := by
          intro m hm1 hm2 h0 h1 hv
          subst hv
          rcases k4 with ⟨_, k4, _⟩ | ⟨b, c, E, k4, k5, k6, k7⟩
          · rw [k4] at k1; simp at k1; omega
          · refine Gives.pure F (x := .pointer (some ⟨b, i.toNat * t'.size, none⟩)) ?_ rfl ⟨b, k4, rfl, h0, by omega⟩
            have e6' : ei.size = t'.size := by rw [e6, hz']
            simp [Instr.indexAt, asIntOf, underlying, e4, slv, k4, hm1, h0, h1, Go.sizeOf, typeInfo, e5, e6', add_none]
        split at h
        · simp only [Option.some.injEq, Prod.mk.injEq, inB_iff] at h
          exact fin (μ s).len rfl (Nat.le_refl _) h.1.1 (by rw [k1]; exact h.1.2) h.2.symm
        · rename_i m
          simp only [Option.some.injEq, Prod.mk.injEq, inB_iff] at h
          exact fin m rfl (hm m rfl) h.1.1 h.1.2 h.2.symm
    · cases h
  · simp at h
  · rename_i len z eqk s off k i hT
    simp only [Option.some.injEq, Prod.mk.injEq, inB_iff] at h
    obtain ⟨⟨h0, h1⟩, rfl⟩ := h
    obtain ⟨rfl, _⟩ := (hi : SVRel w μ ok (.int k i) iv)
    obtain ⟨ti, zv, e, ei, ed, _, _, e3, _, _, _, e7, e8, _⟩ := hP T _ hT
    have hx' : SVRel w μ ok (.ptr s off) xv := hx
    obtain ⟨b, g1, rfl⟩ := hx'
    refine Gives.pure F (x := .pointer (some ⟨b, off + i.toNat, none⟩)) ?_ rfl ⟨b, g1, rfl, h0, h1⟩
    simp [Instr.indexAt, asIntOf, underlying, e3, Instr.sureAddr, h0, h1, Go.sizeOf, typeInfo, e7, e8, add_none]
  · cases h

theorem index_gives (hP : TabOk P tb) (F : Facts mine w0 st a.tmps w μ ok) {T : TypeId} {x i v : AV} {xv iv : Value} (hx : AVRel w μ ok x xv) (hi : AVRel w μ ok i iv)
    (h : evIndex tb T x i = some (true, v)) : Gives P mine w0 st a w μ ok (Instr.index T xv iv) v := by
  unfold evIndex at h
  split at h
  · rename_i z s k i hT
    simp only [Option.some.injEq, Prod.mk.injEq, inB_iff] at h
    obtain ⟨⟨h0, h1⟩, rfl⟩ := h
    obtain ⟨rfl, _⟩ := (hi : SVRel w μ ok (.int k i) iv)
    obtain ⟨rfl, _⟩ := (hx : SVRel w μ ok (.str s) xv)
    obtain ⟨ti, d, zv, _, _, e3, _, _, _, _, _, _, e9⟩ := hP T _ hT
    have e9 := e9 _ rfl
    subst e9
    have hlt : i.toNat < s.size := by omega
    have hb : byteAt s i.toNat = ((s[i.toNat]).toNat : Int) := by
      have hl : i.toNat < s.data.toList.length := by simpa using hlt
      unfold byteAt
      rw [List.getD_eq_getElem?_getD, List.getElem?_eq_getElem hl]
      rfl
    refine Gives.pure F (x := .int .u8 (byteAt s i.toNat)) ?_ rfl ⟨rfl, ?_⟩
    · have hat : s[i.toNat]? = some (s[i.toNat]) := by rw [getElem?_pos]
      simp [Instr.index, asIntOf, underlying, e3, h0, hat, hb]
    · rw [hb]
      have hu : (s[i.toNat]).toNat < 256 := (s[i.toNat]).toNat_lt
      simp [IntKind.has, IntKind.min, IntKind.max, IntKind.signed, IntKind.bits]
      omega
  · rename_i len z eqk cs k i hT
    split at h
    · rename_i k' l he
      cases hl : Nat.beq l.length len with
      | false => simp [hl] at h
      | true =>
        have hl' := Nat.eq_of_beq_eq_true hl
        simp only [hl, cond_true, Option.some.injEq, Prod.mk.injEq, inB_iff] at h
        obtain ⟨⟨h0, h1⟩, rfl⟩ := h
        obtain ⟨rfl, _⟩ := (hi : SVRel w μ ok (.int k i) iv)
        obtain ⟨vs, rfl, hh⟩ := hx
        obtain ⟨ti, zv, e, ei, ed, _, _, e3, _, _, _, e7, e8, e9, e10, _⟩ := hP T _ hT
        obtain ⟨g1, g2⟩ := selInt_rel hh he
        have hlt : i.toNat < l.length := by omega
        have hagg : (Go.isAgg e).run P w = .ok false w := by
          simp only [Go.isAgg, underlying, Sem.run_bind, run_program, Result.andThen_ok, e9, Sem.run_pure]
          cases ed <;> first | rfl | cases e10
        refine Gives.pure F (x := .int k' (l.getD i.toNat 0)) ?_ rfl ⟨rfl, g2 _ (by rw [getD_at _ _ hlt]; exact List.getElem_mem _)⟩
        have hat : vs[i.toNat]? = some (.int k' (l.getD i.toNat 0)) := by rw [g1, getD_at _ _ hlt]; simp [hlt]
        simp [Instr.index, asIntOf, underlying, e3, h0, h1, Go.sizeOf, typeInfo, e7, e8, part, hagg, hat]
    · cases h
  · cases h

theorem run_part {f : Field} {fi : TypeInfo} {fd : TypeDesc} {m o : Nat} {b : Bool} (h1 : P.info? f.type = some fi) (h2 : fi.size = m) (h3 : P.underlying f.type = some fd) (h4 : Agg fd = b) {us vs : List Value}
    (hvs : (us.drop o).take m = vs) (hlen : vs.length = m) (hb : b = false → ∃ x, vs = [x]) :
    (part f.type us.toArray o).run P w = .ok (if b then .agg vs.toArray else vs.headD undef) w := by
  have hagg : (Go.isAgg f.type).run P w = .ok b w := by
    simp only [Go.isAgg, underlying, Sem.run_bind, run_program, Result.andThen_ok, h3, Sem.run_pure]
    cases fd <;> first | (subst h4; rfl)
  cases b with
  | true =>
    simp only [part, Sem.run_bind, hagg, Result.andThen_ok, if_true, Go.sizeOf, typeInfo, run_program, h1, Sem.run_pure, h2]
    congr 2
    rw [← hvs]
    apply Array.ext'
    simp [List.extract_eq_take_drop, Nat.add_sub_cancel_left]
  | false =>
    obtain ⟨x, rfl⟩ := hb rfl
    have hx : us[o]? = some x := by
      have := congrArg (fun l => l[0]?) hvs
      simp only [List.getElem?_take, List.getElem?_drop] at this
      simp at hlen
      subst hlen
      simpa using this
    simp [part, hagg, hx]

theorem field_gives (hP : TabOk P tb) (F : Facts mine w0 st a.tmps w μ ok) {T f : Nat} {x v : AV} {xv : Value} (hx : AVRel w μ ok x xv) (h : evField tb T x f = some (true, v)) :
    Gives P mine w0 st a w μ ok (Instr.field T xv f) v := by
  unfold evField at h
  split at h
  · rename_i n z fs eqk cs hT
    split at h
    · rename_i o m b hf
      split at h
      · rename_i v' hv
        cases hn : Nat.beq ((cs.drop o).take m).length m with
        | false => simp only [hn, cond_false] at h; cases h
        | true =>
          have hn' := Nat.eq_of_beq_eq_true hn
          simp only [hn, cond_true, Option.some.injEq, Prod.mk.injEq, true_and] at h
          subst h
          obtain ⟨us, rfl, hh⟩ := hx
          obtain ⟨i, Fs, zv, _, _, e3, _, _, _, _, e8, _⟩ := hP T _ hT
          obtain ⟨fd, fi, fdd, k1, k2, k3, k4, k5, k6, k7⟩ := e8 f o m b hf
          have g3 := (hh.drop o).take m
          obtain ⟨ho, hr⟩ := asVal_rel g3 hv
          have hrun := run_part (w := w) k3 k4 k6 k7 (us := us) (o := o) rfl (by rw [← g3.length]; exact hn') (by
            intro hf
            rcases hr with ⟨e, _⟩ | ⟨_, x, e, _⟩
            · rw [hf] at e; cases e
            · exact ⟨x, e⟩)
          have hrun' : (Instr.field T (.agg us.toArray) f).run P w = .ok (if b = true then .agg ((us.drop o).take m).toArray else ((us.drop o).take m).headD undef) w := by
            unfold Instr.field
            simp only [underlying, Sem.run_bind, run_program, Result.andThen_ok, e3, Sem.run_pure, k1, asAgg, k2]
            exact hrun
          rcases hr with ⟨e, hr⟩ | ⟨e, x, e2, hr⟩
          · rw [e] at hrun'; exact Gives.pure F hrun' ho hr
          · rw [e, e2] at hrun'; exact Gives.pure F hrun' ho hr
      · cases h
    · cases h
  · cases h

theorem extract_gives (F : Facts mine w0 st a.tmps w μ ok) {l : List (Bool × List SV)} {xv : Value} {j : Nat} {f : Bool} {cs : List SV} {v : AV} (hx : AVRel w μ ok (.tup l) xv) (hl : l[j]? = some (f, cs))
    (hv : asVal f cs = some v) : Gives P mine w0 st a w μ ok (Instr.extract xv j) v := by
  obtain ⟨vs, rfl, hh⟩ := hx
  obtain ⟨x, h1, h2⟩ := hh.get j _ hl
  have hrun : (Instr.extract (.tuple vs.toArray) j).run P w = .ok x w := by simp [Instr.extract, h1]
  cases f with
  | true =>
    obtain ⟨us, rfl, hu⟩ := h2
    obtain ⟨ho, hr⟩ := asVal_rel hu hv
    rcases hr with ⟨_, hr⟩ | ⟨e, _⟩
    · exact Gives.pure F hrun ho hr
    · cases e
  | false =>
    obtain ⟨y, rfl, hy⟩ := h2
    obtain ⟨ho, hr⟩ := asVal_rel (.cons hy .nil) hv
    rcases hr with ⟨e, _⟩ | ⟨_, x', e, hr⟩
    · cases e
    · cases e; exact Gives.pure F hrun ho hr

/-! ### New rows -/
theorem newRow_gives (F : Facts mine w0 st a.tmps w μ ok) {r : Sem Value} {T : TypeId} {cs : List SV} {c : Array Value} (h : All2 (SVRel w μ ok) cs c.toList)
    (hr : r.run P w = .ok (.pointer (some ⟨w.heap.size, 0, none⟩)) (w.alloc (.cells c T))) : Gives P mine w0 st a w μ ok r (.own cs) :=
  ⟨_, _, ok, hr, F.alloc _, ⟨w.heap.size, c, T, rfl, heap_at_new w _, All2.alloc F _ h, F.freshNew _⟩, .alloc _ (by rintro b (h | ⟨n, c, h⟩ | h) <;> simp at h; exact h.symm)⟩

theorem alloc_gives (hP : TabOk P tb) (F : Facts mine w0 st a.tmps w μ ok) {T : TypeId} {ti : TI} (hT : Tab.get tb T = some ti) : Gives P mine w0 st a w μ ok (Instr.alloc T true (.tuple #[])) (.own ti.zero) := by
  obtain ⟨zv, h1, h2⟩ := (hP T ti hT).zero (w := w)
  refine newRow_gives F (T := T) (c := zv.cells) (h2 w μ ok) ?_
  simp [Instr.alloc, h1, newVar, newRow]

theorem box_gives (F : Facts mine w0 st a.tmps w μ ok) {T : TypeId} {x : AV} {v : Value} {cs : List SV} (hx : AVRel w μ ok x v) (hc : cellsOf x = some cs) :
    Gives P mine w0 st a w μ ok (Instr.box T v) (.own cs) := by
  refine newRow_gives F (T := T) (c := v.cells) (cellsOf_rel hx hc) ?_
  simp [Instr.box, newVar, newRow]

theorem foldl_set : ∀ (vs : List Value) (off k : Nat) (cs : Array Value), off + k + vs.length ≤ cs.size →
    ((vs.zipIdx k).foldl (fun cs p => cs.setIfInBounds (off + p.2) p.1) cs).toList = cs.toList.take (off + k) ++ vs ++ cs.toList.drop (off + k + vs.length) := by
  intro vs
  induction vs with
  | nil => intro off k cs h; simp
  | cons v vs ih =>
    intro off k cs h
    simp only [List.length_cons] at h
    simp only [List.zipIdx_cons, List.foldl_cons]
    rw [ih off (k + 1) _ (by simp; omega)]
    simp only [Array.toList_setIfInBounds, Nat.add_zero]
    have hl : off + k < cs.toList.length := by simp; omega
    have e : cs.toList.set (off + k) v = cs.toList.take (off + k) ++ v :: cs.toList.drop (off + k + 1) := by rw [List.set_eq_take_append_cons_drop, if_pos hl]
    have hlt : (cs.toList.take (off + k)).length = off + k := by simp; omega
    rw [e, show off + (k + 1) = off + k + 1 by omega]
    have t1 : ∀ (A D : List Value) (n : Nat), A.length = n → (A ++ v :: D).take (n + 1) = A ++ [v] := by
      intro A D n hn; subst hn; simp [List.take_append, List.take_of_length_le]
    have t2 : ∀ (A D : List Value) (n m : Nat), A.length = n → (A ++ v :: D).drop (n + 1 + m) = D.drop m := by
      intro A D n m hn; subst hn
      rw [List.drop_append, List.drop_of_length_le (by omega), show A.length + 1 + m - A.length = m + 1 by omega]; simp
    rw [t1 _ _ _ hlt, t2 _ _ _ _ hlt, List.drop_drop]
    simp [Nat.add_assoc, Nat.add_comm 1 vs.length]

theorem fill_rel : ∀ {parts : List (Nat × AV)} {vparts : List (Nat × Value)} {place : Nat → Option (Nat × Nat)} {cells cs' : List SV} {vcells : Array Value},
    All2 (SVRel w μ ok) cells vcells.toList → All2 (fun (p : Nat × AV) (q : Nat × Value) => p.1 = q.1 ∧ AVRel w μ ok p.2 q.2) parts vparts → fillParts place cells parts = some cs' →
    ∃ c : Array Value, Instr.fill place vcells vparts = some c ∧ All2 (SVRel w μ ok) cs' c.toList := by
  intro parts
  induction parts with
  | nil =>
    intro vparts place cells cs' vcells h hp hf
    cases hp
    simp only [fillParts, Option.some.injEq] at hf
    subst hf
    exact ⟨vcells, rfl, h⟩
  | cons p parts ih =>
    intro vparts place cells cs' vcells h hp hf
    obtain ⟨i, x⟩ := p
    cases hp with
    | @cons _ q _ vparts hpq ht =>
      obtain ⟨j, v⟩ := q
      obtain ⟨rfl, hx⟩ := hpq
      simp only [fillParts] at hf
      split at hf
      · rename_i o n vs h1 h2
        cases hc : (Nat.beq vs.length n && Nat.ble (o + n) cells.length) with
        | false => simp [hc] at hf
        | true =>
          simp only [hc, cond_true] at hf
          simp only [Bool.and_eq_true] at hc
          have hc1 : vs.length = n := Nat.eq_of_beq_eq_true hc.1
          have hc2 : o + n ≤ cells.length := Nat.le_of_ble_eq_true hc.2
          have hvs := cellsOf_rel hx h2
          have hl1 : v.cells.size = n := by rw [← hc1, hvs.length]; simp
          have hl2 : vcells.size = cells.length := by rw [h.length]; simp
          have hfold : (v.cells.zipIdx.foldl (fun cs (p : Value × Nat) => cs.setIfInBounds (o + p.2) p.1) vcells).toList = vcells.toList.take o ++ v.cells.toList ++ vcells.toList.drop (o + v.cells.toList.length) := by
            rw [← Array.foldl_toList, Array.toList_zipIdx]
            exact foldl_set v.cells.toList o 0 vcells (by simp; omega)
          obtain ⟨c, e1, e2⟩ := ih (place := place) (vcells := v.cells.zipIdx.foldl (fun cs (p : Value × Nat) => cs.setIfInBounds (o + p.2) p.1) vcells) (cells := splice cells o vs) (by
            rw [hfold]
            unfold splice
            rw [hvs.length]
            exact ((h.take o).append hvs).append (h.drop _)) ht hf
          refine ⟨c, ?_, e2⟩
          simp only [Instr.fill, h1]
          rw [if_neg (by simp; omega)]
          exact e1
      · cases hf
end

end Go.AM
