/- An abstract machine over the model's own code: stores and appends agree with the machine. -/
import Derived.Test.YtoeijiackpanoaaAmStep
import Derived.Laws.AppendOwn
set_option linter.unusedVariables false
set_option linter.unusedSimpArgs false
namespace Go.AM

section
variable {P : Program} {mine : Cx} {w0 : World} {st : St} {a : Act} {w : World} {μ : Locs} {ok : OK} {tb : Tab}

/-- One owner's row has been written. -/
theorem Facts.store {tm : Array Value} (F : Facts mine w0 st tm w μ ok) {s b : Nat} (hs : (st.ow s).isOwner = true) (hb : (μ s).b = some b) {w1 : World}
    (hother : ∀ k, k ≠ b → w1.heap[k]? = w.heap[k]?) (hsz : w1.heap.size = w.heap.size) (hos : w1.os = w.os) (htape : w1.tape = w.tape) (hout : w1.output = w.output)
    {v' : AV} (ho' : v'.isOwner = true) (hslot : (st.at s).isGho = false → SlotRel w1 μ ok s v' (tm.getD s undef)) (hown : OwnRel w1 μ ok s v') : Facts mine w0 (St.upd st s v') tm w1 μ ok := by
  have hB := F.ownB s b hs hb
  have hok : ∀ fr k, ok fr k → w1.heap[k]? = w.heap[k]? := fun fr k hk => hother k fun e => hB.2.2 (e ▸ F.ok_any hk)
  have hlen : s < st.length := by
    rcases Nat.lt_or_ge s st.length with h | h
    · exact h
    · rw [St.ow_out _ _ h] at hs; cases hs
  have hat : ∀ i, i ≠ s → St.at (St.upd st s v') i = st.at i := fun i hi => St.at_upd_ne st v' (Ne.symm hi)
  have how : ∀ i, i ≠ s → St.ow (St.upd st s v') i = st.ow i := fun i hi => St.ow_upd_ne st v' (Ne.symm hi)
  have hows : St.ow (St.upd st s v') s = v' := St.ow_upd_self st s (.inl ho') hlen
  have hgi : ∀ i, (St.at (St.upd st s v') i).isGho = (st.at i).isGho := fun i => St.isGho_upd st s i (AV.isGho_owner ho')
  have hown' : ∀ i, (St.ow (St.upd st s v') i).isOwner = true → (st.ow i).isOwner = true := by
    intro i hi
    by_cases e : i = s
    · subst e; exact hs
    · rwa [how i e] at hi
  refine ⟨fun i => ?_, fun i => ?_, F.size, fun i h1 h2 => by rw [hgi]; exact F.gho i h1 (by rwa [St.length_upd] at h2), fun i h1 => by rw [hgi]; exact F.real i h1, by rw [St.length_upd]; exact F.len, F.pin,
    fun i k hi hk => ?_, fun i j k hi hj => F.inj i j k (hown' i hi) (hown' j hj), fun k hk => by rw [hsz]; exact F.okB k hk, F.okT, F.okF, F.okS, ?_⟩
  · by_cases e : i = s
    · subst e
      unfold St.upd
      rw [St.at_set_self _ _ _ hlen]
      cases hg : (st.at i).isGho with
      | true =>
        cases hsi : st.at i with
        | gho o => trivial
        | _ => rw [hsi] at hg; cases hg
      | false =>
        have : (st.at i).re v' = v' := by cases hsi : st.at i <;> first | rfl | (rw [hsi] at hg; cases hg)
        rw [this]; exact hslot hg
    · rw [hat i e]
      cases hg : (st.at i).isGho with
      | true =>
        cases hsi : st.at i with
        | gho o => trivial
        | _ => rw [hsi] at hg; cases hg
      | false => exact (F.slots i).mono hok (fun _ _ h => h) (fun _ _ => rfl) (fun _ => rfl)
  · by_cases e : i = s
    · subst e; rw [hows]; exact hown
    · rw [how i e]
      exact (F.owns i).mono hok (fun _ _ h => h) (fun _ _ => rfl) (fun _ => rfl) (fun k hi hk => hother k fun e' => e (F.inj i s k hi hs hk (e' ▸ hb)))
  · have := F.ownB i k (hown' i hi) hk
    exact ⟨by rw [hsz]; exact this.1, this.2⟩
  · refine ⟨hos.trans F.fr.os, htape.trans F.fr.tape, hout.trans F.fr.output, by rw [hsz]; exact F.fr.size, fun k hk hm => ?_⟩
    rw [hother k fun e => ?_]
    · exact F.fr.block k hk hm
    · subst e
      rcases hB.2.1 with h | h
      · omega
      · exact hm h
/-- A slot of the frame that owns. -/
theorem ow_at {s : Nat} {v : AV} (h : st.ow s = v) (hg : (st.at s).isGho = false) : st.at s = v := by
  unfold St.ow at h
  rwa [AV.un_id hg] at h

theorem run_storeCells (b : Nat) (E : TypeId) : ∀ (vs : List Value) (o i : Nat) (w : World) (c : Array Value), w.heap[b]? = some (.cells c E (0, 0)) → o + i + vs.length ≤ c.size → (∀ v ∈ vs, v.oneCell' = true) →
    ∃ w1 c', (storeCells ⟨b, o, none⟩ vs i).run P w = .ok () w1 ∧ w1.heap[b]? = some (.cells c' E (0, 0)) ∧ c'.toList = c.toList.take (o + i) ++ vs ++ c.toList.drop (o + i + vs.length) ∧
      (∀ k, k ≠ b → w1.heap[k]? = w.heap[k]?) ∧ w1.heap.size = w.heap.size ∧ w1.os = w.os ∧ w1.tape = w.tape ∧ w1.output = w.output := by
  intro vs
  induction vs with
  | nil => intro o i w c h _ _; exact ⟨w, c, by simp [storeCells], h, by simp, fun _ _ => rfl, rfl, rfl, rfl, rfl⟩
  | cons v vs ih =>
    intro o i w c h hl h1
    simp only [List.length_cons] at hl
    have hc : w.cell? ⟨b, o + i, none⟩ = some c[o + i] := by rw [cell_block h]; simp
    have hf : w.frozen? ⟨b, o + i, none⟩ = false := by
      simp only [World.frozen?, h]
      simp
    have hrun : (store ((⟨b, o, none⟩ : Addr).add i) v).run P w = .ok () (w.setCell ⟨b, o + i, none⟩ v) := by
      rw [add_none, run_store P w _ v _ (h1 v (by simp))]
      simp [hc, hf]
    have hh : (w.setCell ⟨b, o + i, none⟩ v).heap[b]? = some (.cells (c.setIfInBounds (o + i) v) E (0, 0)) := by
      simp [World.setCell, Array.getElem?_modify, h]
    obtain ⟨w1, c', e1, e2, e3, e4, e5, e6, e7, e8⟩ := ih o (i + 1) (w.setCell ⟨b, o + i, none⟩ v) (c.setIfInBounds (o + i) v) hh (by simp; omega) (fun u hu => h1 u (by simp [hu]))
    refine ⟨w1, c', by simp only [storeCells, Sem.run_bind, hrun, Result.andThen_ok]; exact e1, e2, ?_, fun k hk => ?_, by rw [e5]; simp [World.setCell], e6.trans rfl, e7.trans rfl, e8.trans rfl⟩
    · rw [e3]
      simp only [Array.toList_setIfInBounds]
      have hl' : o + i < c.toList.length := by simp; omega
      have e : c.toList.set (o + i) v = c.toList.take (o + i) ++ v :: c.toList.drop (o + i + 1) := by rw [List.set_eq_take_append_cons_drop, if_pos hl']
      have hlt : (c.toList.take (o + i)).length = o + i := by simp; omega
      rw [e, show o + (i + 1) = o + i + 1 by omega]
      have t1 : ∀ (A D : List Value) (n : Nat), A.length = n → (A ++ v :: D).take (n + 1) = A ++ [v] := by
        intro A D n hn; subst hn; simp [List.take_append, List.take_of_length_le]
      have t2 : ∀ (A D : List Value) (n m : Nat), A.length = n → (A ++ v :: D).drop (n + 1 + m) = D.drop m := by
        intro A D n m hn; subst hn
        rw [List.drop_append, List.drop_of_length_le (by omega), show A.length + 1 + m - A.length = m + 1 by omega]; simp
      rw [t1 _ _ _ hlt, t2 _ _ _ _ hlt, List.drop_drop]
      simp [Nat.add_assoc, Nat.add_comm 1 vs.length]
    · rw [e4 k hk]
      exact RowKit.Below.heap_setCell _ _ _ _ (by simpa using hk)

theorem run_storeAt (hP : TabOk P tb) {T : TypeId} {ti : TI} (hT : Tab.get tb T = some ti) {b o : Nat} {E : TypeId} {v : Value} {c : Array Value} (hn : v.cells.toList.length = ti.size)
    (h : w.heap[b]? = some (.cells c E (0, 0))) (hl : o + v.cells.toList.length ≤ c.size) (h1 : ∀ u ∈ v.cells.toList, u.oneCell' = true) :
    ∃ w1 c', (Instr.storeAt T (.pointer (some ⟨b, o, none⟩)) v).run P w = .ok () w1 ∧ w1.heap[b]? = some (.cells c' E (0, 0)) ∧ c'.toList = c.toList.take o ++ v.cells.toList ++ c.toList.drop (o + v.cells.toList.length) ∧
      (∀ k, k ≠ b → w1.heap[k]? = w.heap[k]?) ∧ w1.heap.size = w.heap.size ∧ w1.os = w.os ∧ w1.tape = w.tape ∧ w1.output = w.output := by
  obtain ⟨w1, c', e1, e2, e3, e4⟩ := run_storeCells (P := P) b E v.cells.toList o 0 w c h (by simpa using hl) h1
  refine ⟨w1, c', ?_, e2, by simpa using e3, e4⟩
  have hs := (hP T ti hT).sizeOf (w := w)
  unfold Instr.storeAt Instr.sureAddr storeVar
  simp only [Sem.run_bind, Sem.run_pure, Result.andThen_ok, hs]
  rw [if_neg (by simp at hn; simp [hn])]
  simp [e1]

theorem all2_one {cs : List SV} {vs : List Value} (h : All2 (SVRel w μ ok) cs vs) : ∀ v ∈ vs, v.oneCell' = true := by
  induction h with
  | nil => intro v hv; cases hv
  | cons hx _ ih =>
    intro v hv
    rcases List.mem_cons.1 hv with rfl | hv
    · exact hx.one
    · exact ih v hv

theorem splice_rel {cs vs : List SV} {us xs : List Value} {o : Nat} (h : All2 (SVRel w μ ok) cs us) (h' : All2 (SVRel w μ ok) vs xs) :
    All2 (SVRel w μ ok) (splice cs o vs) (us.take o ++ xs ++ us.drop (o + xs.length)) := by
  unfold splice
  rw [h'.length]
  exact ((h.take o).append h').append (h.drop _)

theorem getElem?_splice {α : Type} (l vs : List α) (o i : Nat) (h : o + vs.length ≤ l.length) : (l.take o ++ vs ++ l.drop (o + vs.length))[i]? = if o ≤ i ∧ i < o + vs.length then vs[i - o]? else l[i]? := by
  simp only [List.append_assoc, List.getElem?_append, List.length_take, List.getElem?_take, List.getElem?_drop]
  have hm : min o l.length = o := by omega
  rw [hm]
  by_cases h1 : i < o
  · simp [h1, show ¬ (o ≤ i ∧ i < o + vs.length) by omega]
  · by_cases h2 : i - o < vs.length
    · simp [h1, h2, show o ≤ i ∧ i < o + vs.length by omega]
    · simp [h1, h2, show ¬ (o ≤ i ∧ i < o + vs.length) by omega]
      congr 1
      omega

theorem one_inv {x : SV} {vs : List Value} (h : All2 (SVRel w μ ok) [x] vs) : ∃ u, vs = [u] ∧ SVRel w μ ok x u := by
  cases h with
  | cons h t => cases t; exact ⟨_, rfl, h⟩

/-- A STORE. -/
theorem store_sound (hP : TabOk P tb) (F : Facts mine w0 st a.tmps w μ ok) {T : TypeId} {p v : AV} {pv vv : Value} (hp : AVRel w μ ok p pv) (hv : AVRel w μ ok v vv) {st' : St} (h : mdStore tb st T p v = some (true, st')) :
    ∃ w1, (Instr.storeAt T pv vv).run P w = .ok () w1 ∧ Facts mine w0 st' a.tmps w1 μ ok := by
  unfold mdStore at h
  split at h
  · rename_i ti p vs hT hc
    cases hn : Nat.beq vs.length ti.size with
    | false => simp only [hn, cond_false] at h; cases h
    | true =>
      have hn' : vs.length = ti.size := Nat.eq_of_beq_eq_true hn
      simp only [hn, cond_true] at h
      have hvs := cellsOf_rel hv hc
      have hlen : vv.cells.toList.length = ti.size := by rw [← hvs.length]; exact hn'
      have hone := all2_one hvs
      unfold stCells at h
      split at h
      · -- a cell of a row of cells
        rename_i s off
        split at h
        · rename_i cs hs
          cases hb : Nat.ble (off + vs.length) cs.length with
          | false => simp only [hb, cond_false] at h; cases h
          | true =>
            have hb' : off + vs.length ≤ cs.length := Nat.le_of_ble_eq_true hb
            simp only [hb, cond_true, Option.some.injEq, Prod.mk.injEq, true_and] at h
            subst h
            obtain ⟨b, c, E, k1, k2, k3⟩ := ownCells F hs
            obtain ⟨b', k1', rfl⟩ := (hp : SVRel w μ ok (.ptr s off) pv)
            rw [k1] at k1'; cases k1'
            have hcl : cs.length = c.size := by rw [k3.length]; simp
            obtain ⟨w1, c', e1, e2, e3, e4, e5, e6, e7, e8⟩ := run_storeAt hP hT hlen k2 (o := off) (by rw [hlen, ← hn']; omega) hone
            have hso : (st.ow s).isOwner = true := by rw [hs]; rfl
            have hok : ∀ fr k, ok fr k → w1.heap[k]? = w.heap[k]? := fun fr k hk => e4 k fun e => (F.ownB s b hso k1).2.2 (e ▸ F.ok_any hk)
            refine ⟨w1, e1, F.store hso k1 e4 e5 e6 e7 e8 rfl ?_ ⟨b, c', E, k1, e2, ?_⟩⟩
            · intro hg
              have := F.slots s
              rw [ow_at hs hg] at this
              exact this
            · rw [e3]
              exact (splice_rel k3 hvs).imp fun x v hxv => hxv.mono hok (fun _ _ h => h) (fun _ _ => rfl)
        · cases h
      · -- a part of a slice's element
        rename_i s sz i off
        split at h
        · rename_i fr t xs hs
          cases hb : (Nat.beq sz t.size && Nat.ble (off + vs.length) t.size) with
          | false => simp only [hb, cond_false] at h; cases h
          | true =>
            simp only [hb, cond_true] at h
            simp only [Bool.and_eq_true] at hb
            obtain rfl : sz = t.size := Nat.eq_of_beq_eq_true hb.1
            have hb' : off + vs.length ≤ t.size := Nat.le_of_ble_eq_true hb.2
            split at h
            · rename_i x g hd
              simp only [Option.some.injEq, Prod.mk.injEq, true_and] at h
              subst h
              obtain ⟨b, k1, rfl, k3, k4⟩ := (hp : SVRel w μ ok (.hptr s t.size i off) pv)
              have hso : (st.ow s).isOwner = true := by rw [hs]; rfl
              have hown := arr_of F hs
              obtain ⟨g1, g2, g3, g4⟩ := hown
              rcases g4 with ⟨g4, _⟩ | ⟨b', c, E, j1, j2, j3, j4⟩
              · rw [k1] at g4; cases g4
              · rw [k1] at j1; cases j1
                have hlt : i.toNat < xs.length := by omega
                obtain ⟨us, t1, t2⟩ := j4 i.toNat hlt
                have husl := t1.length
                rw [getD_at _ _ hlt] at hd
                have hsp := splice_rel (o := off) (enc_rel (μ := μ) t1) hvs
                have hvl : vv.cells.toList.length = vs.length := hvs.length.symm
                have hbound : (i.toNat + 1) * t.size ≤ (μ s).cap * t.size := Nat.mul_le_mul_right _ (by omega)
                have hst : i.toNat * t.size + off + vv.cells.toList.length ≤ c.size := by rw [Nat.succ_mul] at hbound; omega
                obtain ⟨w1, c', e1, e2, e3, e4, e5, e6, e7, e8⟩ := run_storeAt hP hT hlen j2 (o := i.toNat * t.size + off) hst hone
                have hok : ∀ fr k, ok fr k → w1.heap[k]? = w.heap[k]? := fun fr k hk => e4 k fun e => (F.ownB s b hso k1).2.2 (e ▸ F.ok_any hk)
                have htr := decAll_rel F.okT hsp hd
                have hc' : ∀ k, c'[k]? = if i.toNat * t.size + off ≤ k ∧ k < i.toNat * t.size + off + vv.cells.toList.length then vv.cells.toList[k - (i.toNat * t.size + off)]? else c[k]? := by
                  intro k
                  rw [← Array.getElem?_toList, e3, getElem?_splice _ _ _ _ (by simpa using hst)]
                  simp only [Array.getElem?_toList]
                have weak : ∀ (f g : Bool) b, ok f b → ok (f && g) b := by
                  intro f g b hb
                  cases f with
                  | true => cases g with
                    | true => exact hb
                    | false => exact F.okT b hb
                  | false => exact hb
                have weak' : ∀ (f g : Bool) b, ok g b → ok (f && g) b := by
                  intro f g b hb
                  cases f with
                  | true => exact hb
                  | false => exact F.ok_any hb
                refine ⟨w1, e1, F.store hso k1 e4 e5 e6 e7 e8 rfl ?_ ⟨by simp [g1], g2, g3, .inr ⟨b, c', E, k1, e2, ?_, fun j hj => ?_⟩⟩⟩
                · intro hg
                  have := F.slots s
                  rw [ow_at hs hg] at this
                  exact this
                · have : c'.size = c.size := by
                    have := congrArg List.length e3
                    simp at this; simp at hst; omega
                  rw [this]; exact j3
                · have hj' : j < xs.length := by simpa using hj
                  by_cases hji : i.toNat = j
                  · subst hji
                    refine ⟨us.take off ++ vv.cells.toList ++ us.drop (off + vv.cells.toList.length), ?_, fun q hq => ?_⟩
                    · rw [List.getElem_set_self]
                      exact TRel.mono (hok _) (weak' fr g) htr
                    have hq' : q < us.length := by
                      have h1 := (TRel.length htr); rw [h1] at hq; omega
                    rw [hc']
                    have e9 := getElem?_splice us vv.cells.toList off q (by rw [husl, hvl]; exact hb')
                    rw [← List.getElem?_eq_getElem hq, e9]
                    by_cases hin : off ≤ q ∧ q < off + vv.cells.toList.length
                    · rw [if_pos hin, if_pos (by omega), show i.toNat * t.size + q - (i.toNat * t.size + off) = q - off by omega]
                    · rw [if_neg hin, if_neg (by omega), List.getElem?_eq_getElem hq']; exact t2 q hq'
                  · obtain ⟨cs, d1, d2⟩ := j4 j hj'
                    refine ⟨cs, ?_, fun q hq => ?_⟩
                    · rw [List.getElem_set_ne hji]
                      exact TRel.mono (hok _) (weak fr g) d1
                    · rw [hc', if_neg, d2 q hq]
                      have hq' : q < t.size := by rw [← d1.length]; exact hq
                      rcases Nat.lt_or_gt_of_ne hji with hlt' | hgt
                      · have : (i.toNat + 1) * t.size ≤ j * t.size := Nat.mul_le_mul_right _ (by omega)
                        rw [Nat.succ_mul] at this; omega
                      · have : (j + 1) * t.size ≤ i.toNat * t.size := Nat.mul_le_mul_right _ (by omega)
                        rw [Nat.succ_mul] at this; omega
            · cases h
        · cases h
      · -- an element of an array
        rename_i s base len idx
        split at h
        · rename_i cs k n hs
          split at h
          · rename_i k' l he
            cases hb : (ikEq k k' && Nat.beq l.length len) with
            | false => simp only [hb, cond_false] at h; cases h
            | true =>
              simp only [hb, cond_true, Option.some.injEq, Prod.mk.injEq, true_and] at h
              subst h
              simp only [Bool.and_eq_true] at hb
              obtain rfl := ikEq_eq hb.1
              have hl' : l.length = len := Nat.eq_of_beq_eq_true hb.2
              obtain ⟨b, c, E, k1, k2, k3⟩ := ownCells F hs
              obtain ⟨b', k1', rfl, h0, hi⟩ := (hp : SVRel w μ ok (.aptr s base len idx) pv)
              rw [k1] at k1'; cases k1'
              obtain ⟨s1, s2⟩ := selInt_rel ((k3.drop base).take len) he
              have hidx : idx.toNat < l.length := by omega
              have hseg : ((c.toList.drop base).take len).length = len := by rw [s1]; simp [hl']
              have hcl : base + len ≤ c.size := by simp at hseg; omega
              obtain ⟨u, hu1, hue, hun⟩ := one_inv hvs
              · have hvl : vv.cells.toList = [.int k n] := by rw [hu1, hue]
                obtain ⟨w1, c', e1, e2, e3, e4, e5, e6, e7, e8⟩ := run_storeAt hP hT hlen k2 (o := base + idx.toNat) (by rw [hvl]; simp; omega) hone
                have hso : (st.ow s).isOwner = true := by rw [hs]; rfl
                have hok : ∀ fr k, ok fr k → w1.heap[k]? = w.heap[k]? := fun fr k hk => e4 k fun e => (F.ownB s b hso k1).2.2 (e ▸ F.ok_any hk)
                refine ⟨w1, e1, F.store hso k1 e4 e5 e6 e7 e8 rfl ?_ ⟨b, c', E, k1, e2, ?_⟩⟩
                · intro hg
                  have := F.slots s
                  rw [ow_at hs hg] at this
                  exact this
                · have hnew : All2 (SVRel w μ ok) ((l.set idx.toNat n).map (SV.int k)) ((l.set idx.toNat n).map (Value.int k)) := by
                    have : ∀ l : List Int, (∀ m ∈ l, k.has m) → All2 (SVRel w μ ok) (l.map (SV.int k)) (l.map (Value.int k)) := by
                      intro l
                      induction l with
                      | nil => intro _; exact .nil
                      | cons m l ih => intro h; exact .cons ⟨rfl, h m (by simp)⟩ (ih fun m hm => h m (by simp [hm]))
                    refine this _ fun m hm => ?_
                    rcases List.mem_or_eq_of_mem_set hm with hm | rfl
                    · exact s2 m hm
                    · exact hun
                  have hsp := splice_rel (o := base) k3 hnew
                  have heq : c'.toList = c.toList.take base ++ (l.set idx.toNat n).map (Value.int k) ++ c.toList.drop (base + ((l.set idx.toNat n).map (Value.int k)).length) := by
                    apply List.ext_getElem?
                    intro q
                    rw [e3, hvl, getElem?_splice _ _ _ _ (by simp; omega), getElem?_splice _ _ _ _ (by simp; omega)]
                    simp only [List.length_cons, List.length_nil, List.length_map, List.length_set]
                    have hcq : base ≤ q → q < base + l.length → c.toList[q]? = (l.map (Value.int k))[q - base]? := by
                      intro q1 q2
                      rw [← s1, List.getElem?_take, if_pos (by omega), List.getElem?_drop, show base + (q - base) = q by omega]
                    by_cases h1 : q = base + idx.toNat
                    · subst h1
                      simp [hidx, show base + idx.toNat - base = idx.toNat by omega]
                    · by_cases h2 : base ≤ q ∧ q < base + l.length
                      · rw [if_neg (by omega), if_pos h2, hcq h2.1 h2.2, List.map_set, List.getElem?_set_ne (by omega)]
                      · rw [if_neg (by omega), if_neg h2]
                  rw [heq]
                  exact hsp.imp fun x v hxv => hxv.mono hok (fun _ _ h => h) (fun _ _ => rfl)
          · cases h
        · cases h
      · cases h
  · cases h
end

end Go.AM
