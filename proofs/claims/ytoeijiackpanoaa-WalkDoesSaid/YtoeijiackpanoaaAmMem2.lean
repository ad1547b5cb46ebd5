/- An abstract machine over the model's own code: appends agree with the machine. -/
import Derived.Test.YtoeijiackpanoaaAmMem
set_option linter.unusedVariables false
set_option linter.unusedSimpArgs false
namespace Go.AM

section
variable {P : Program} {mine : Cx} {w0 : World} {st : St} {a : Act} {w : World} {μ : Locs} {ok : OK} {tb : Tab}

theorem set_getD_self (tm : Array Value) (r : Nat) (u : Value) : tm.setIfInBounds r (tm.getD r u) = tm := by
  apply Array.ext_getElem?
  intro i
  by_cases e : r = i
  · subst e
    by_cases h : r < tm.size
    · simp [Array.getElem?_setIfInBounds, Array.getD_eq_getD_getElem?, h]
    · simp [Array.getElem?_setIfInBounds, h]
  · simp [Array.getElem?_setIfInBounds, e]

theorem castL_eq' {a b : Ty} {xs : List a.D} {ys : List b.D} (h : Ty.castL a b xs = some ys) : ∃ e : b = a, xs = e ▸ ys := by
  obtain ⟨rfl, rfl⟩ := castL_eq h
  exact ⟨rfl, rfl⟩

theorem upd_junk_ow (st : St) (r : Nat) : (St.upd st r .junk).ow r = .one .junk := by
  by_cases hl : r < st.length
  · exact St.ow_upd_self st r (.inr rfl) hl
  · exact St.ow_out _ _ (by rw [St.length_upd]; omega)
theorem drop_owner {r i : Nat} (h : (St.ow (St.upd (st.kill r) r .junk) i).isOwner = true) : i ≠ r ∧ (st.ow i).isOwner = true := by
  by_cases e : i = r
  · subst e
    rw [upd_junk_ow] at h; cases h
  · refine ⟨e, ?_⟩
    rw [St.ow_upd_ne _ _ (Ne.symm e), St.ow_kill, AV.isOwner_kill] at h
    exact h
/-- What a slot owns is let go. -/
theorem Facts.drop {tm : Array Value} (F : Facts mine w0 st tm w μ ok) (r : Nat) : Facts mine w0 (St.upd (st.kill r) r .junk) tm w μ ok := by
  have F1 := F.forget r
  have hgi : ∀ i, (St.at (St.upd (st.kill r) r .junk) i).isGho = ((st.kill r).at i).isGho := fun i => St.isGho_upd _ r i rfl
  refine ⟨fun i => ?_, fun i => ?_, F.size, fun i h1 h2 => by rw [hgi]; exact F1.gho i h1 (by rwa [St.length_upd] at h2), fun i h1 => by rw [hgi]; exact F1.real i h1, by rw [St.length_upd]; exact F1.len, F.pin,
    fun i b h1 h2 => F.ownB i b (drop_owner h1).2 h2, fun i j b h1 h2 => F.inj i j b (drop_owner h1).2 (drop_owner h2).2, F.okB, F.okT, F.okF, F.okS, F.fr⟩
  · by_cases e : i = r
    · subst e
      unfold St.upd
      by_cases hl : i < (st.kill i).length
      · rw [St.at_set_self _ _ _ hl]
        unfold AV.re
        split <;> trivial
      · rw [St.at_out _ _ (by simp; omega)]; trivial
    · rw [St.at_upd_ne _ _ (Ne.symm e)]; exact F1.slots i
  · by_cases e : i = r
    · subst e; rw [upd_junk_ow]; trivial
    · rw [St.ow_upd_ne _ _ (Ne.symm e)]; exact F1.owns i

theorem Facts.drew {tm : Array Value} (F : Facts mine w0 st tm w μ ok) : Facts mine w0 st tm w.drew μ ok :=
  F.step (fun _ _ => rfl) (fun _ _ _ _ => rfl) (Nat.le_refl _) (fun _ _ h => h) F.okB F.okT F.okF (fun i b h1 h2 => (F.ownB i b h1 h2).2.2) F.okS ⟨F.fr.os, F.fr.tape, F.fr.output, F.fr.size, F.fr.block⟩

/-- What an append takes its elements from. -/
structure Src (w : World) (okf : Nat → Prop) (t : Ty) (ys : List t.D) (A : Option Addr) (news : List Value) : Prop where
  len : news.length = ys.length * t.size
  one : ∀ v ∈ news, v.oneCell' = true
  nil : A = none → ys = []
  cells : ∀ ad, A = some ad → ∀ j v, news[j]? = some v → w.cell? (ad.add j) = some v
  elems : ∀ j (h : j < ys.length), ∃ cs, TRel w okf t ys[j] cs ∧ ∀ q (hq : q < cs.length), news[j * t.size + q]? = some cs[q]

theorem flat {okf : Nat → Prop} {t : Ty} {b : Nat} : ∀ (ys : List t.D) (o : Nat), (∀ j (h : j < ys.length), ∃ cs, TRel w okf t ys[j] cs ∧ Cells w b (o + j * t.size) cs) → ∃ news, Src w okf t ys (some ⟨b, o, none⟩) news := by
  intro ys
  induction ys with
  | nil => intro o h; exact ⟨[], by simp, by simp, by simp, by simp, by simp⟩
  | cons y ys ih =>
    intro o h
    obtain ⟨cs0, t0, c0⟩ := h 0 (by simp)
    obtain ⟨news, s1, s2, s3, s4, s5⟩ := ih (o + t.size) (fun j hj => by
      obtain ⟨cs, t1, c1⟩ := h (j + 1) (by simp; omega)
      refine ⟨cs, by simpa using t1, ?_⟩
      have : o + (j + 1) * t.size = o + t.size + j * t.size := by rw [Nat.succ_mul]; omega
      rwa [this] at c1)
    have hl0 : cs0.length = t.size := t0.length
    refine ⟨cs0 ++ news, by simp [hl0, s1, Nat.succ_mul]; omega, ?_, (fun h => by cases h), ?_, ?_⟩
    · intro v hv
      rcases List.mem_append.1 hv with hv | hv
      · exact t0.one v hv
      · exact s2 v hv
    · intro ad had j v hj
      cases had
      rw [add_none]
      rcases Nat.lt_or_ge j cs0.length with hlt | hge
      · rw [List.getElem?_append_left hlt, List.getElem?_eq_getElem hlt] at hj
        cases hj
        simpa using c0 j hlt
      · rw [List.getElem?_append_right hge] at hj
        have := s4 _ rfl _ _ hj
        rw [add_none] at this
        rwa [show o + t.size + (j - cs0.length) = o + j by omega] at this
    · intro j hj
      cases j with
      | zero => exact ⟨cs0, by simpa using t0, fun q hq => by rw [List.getElem?_append_left (by omega)]; simp [hq]⟩
      | succ j =>
        obtain ⟨cs, t1, c1⟩ := s5 j (by simpa using hj)
        refine ⟨cs, by simpa using t1, fun q hq => ?_⟩
        rw [List.getElem?_append_right (by rw [Nat.succ_mul]; omega), ← c1 q hq]
        congr 1
        rw [Nat.succ_mul]; omega

theorem src_of_sl {okf : Nat → Prop} {t : Ty} {ys : List t.D} {v : Value} (h : TRel w okf (.sl t) ys [v]) : ∃ A c news, v = .slice A ys.length c ∧ Src w okf t ys A news := by
  obtain ⟨A, c, e, h1, h2, h3⟩ := h
  simp only [List.cons.injEq, and_true] at e
  rcases h3 with ⟨rfl, rfl, _⟩ | ⟨b, o, ⟨sp, rfl, hsp⟩, _, h3⟩
  · exact ⟨none, c, [], e, by simp, by simp, by simp, by simp, by simp⟩
  · by_cases hy : ys = []
    · subst hy
      exact ⟨_, c, [], e, by simp, by simp, by simp, by simp, by simp⟩
    · obtain rfl := hsp hy
      obtain ⟨news, hs⟩ := flat ys o h3
      exact ⟨_, c, news, e, hs⟩

theorem getSl_rel (F : Facts mine w0 st a.tmps w μ ok) {t : Ty} {x : SV} {xv : Value} {g : Bool} {ys : List t.D} (hx : SVRel w μ ok x xv) (h : getSl st t x = some (g, ys)) :
    ∃ A c news, xv = .slice A ys.length c ∧ Src w (ok g) t ys A news := by
  cases x <;> simp only [getSl] at h <;> try (cases h; done)
  · cases h
    exact ⟨none, 0, [], hx, by simp, by simp, by simp, by simp, by simp⟩
  · rename_i fr t' nl xs
    split at h
    · rename_i zs hc
      obtain ⟨rfl, rfl⟩ := castL_eq hc
      cases h
      exact src_of_sl hx.1
    · cases h
  · rename_i s n
    split at h
    · rename_i fr t' xs hs
      split at h
      · rename_i zs hc
        obtain ⟨rfl, rfl⟩ := castL_eq hc
        have hr := arr_of F hs
        obtain ⟨rfl, hm, hb⟩ := hx
        -- the slice's cells, as they lie in the owner's row
        have key : ∀ m, m ≤ xs.length → ∃ news, Src w (ok fr) t' (xs.take m) ((μ s).b.map fun b => ⟨b, 0, none⟩) news := by
          intro m hm
          obtain ⟨g1, g2, g3, g4⟩ := hr
          rcases g4 with ⟨k1, rfl, _⟩ | ⟨b, c, E, k1, k2, k3, k4⟩
          · exact ⟨[], by simp, by simp, by simp, by simp, by simp⟩
          · rw [k1]
            obtain ⟨news, hs⟩ := flat (w := w) (okf := ok fr) (b := b) (xs.take m) 0 (fun j hj => by
              have hj' : j < xs.length := by simp at hj; omega
              obtain ⟨cs, t1, t2⟩ := k4 j hj'
              refine ⟨cs, by simpa using t1, fun q hq => ?_⟩
              rw [cell_block k2, Nat.zero_add]; exact t2 q hq)
            exact ⟨news, hs⟩
        cases n with
        | none =>
          cases h
          obtain ⟨news, hs'⟩ := key xs.length (Nat.le_refl _)
          rw [List.take_length] at hs'
          exact ⟨_, _, news, by unfold slv; rw [Option.getD_none, hr.1], hs'⟩
        | some m =>
          cases h
          have hml := hm m rfl
          rw [hr.1] at hml
          obtain ⟨news, hs'⟩ := key m hml
          exact ⟨_, (μ s).cap, news, by unfold slv; simp [Nat.min_eq_left hml], hs'⟩
      · cases h
    · cases h

/-- An append of what is nil or empty. -/
theorem run_append_none {t ty e : TypeId} {i : TypeInfo} (ht : P.underlying t = some (.slice e)) (hi : P.info? e = some i) (A : Option Addr) (n c : Nat) (hn : n ≤ c) (B : Option Addr) (cc : Nat) :
    (Builtin.append_ #[t, t] ty #[.slice A n c, .slice B 0 cc]).run P w = .ok (.slice A n c) w := by
  have hfc : ∀ w, (Builtin.firstCells i.size 0 (.slice B 0 cc)).run P w = .ok #[] w := by
    intro w; cases B <;> simp [Builtin.firstCells, loadCells, loadCellsFrom]
  unfold Builtin.append_
  simp [underlying, ht, sizeOf, typeInfo, hi, Builtin.lenOf, hn, hfc]
  cases A <;> simp [storeCells]

theorem run_append_room' {t ty e E : TypeId} {i : TypeInfo} (ht : P.underlying t = some (.slice e)) (hi : P.info? e = some i)
    (g sLen sCap : Nat) (cur : Array Value) (hg : w.heap[g]? = some (.cells cur E (0, 0)))
    (a : Addr) (m c : Nat) (news : List Value) (hl : news.length = m * i.size) (hnews : ∀ j u, news[j]? = some u → w.cell? (a.add j) = some u) (h1 : ∀ u ∈ news, u.oneCell' = true)
    (hroom : sLen + m ≤ sCap) (hfit : sLen * i.size + news.length ≤ cur.size) :
    ∃ w1 c', (Builtin.append_ #[t, t] ty #[.slice (some ⟨g, 0, none⟩) sLen sCap, .slice (some a) m c]).run P w = .ok (.slice (some ⟨g, 0, none⟩) (sLen + m) sCap) w1 ∧
      w1.heap[g]? = some (.cells c' E (0, 0)) ∧ c'.toList = cur.toList.take (sLen * i.size) ++ news ++ cur.toList.drop (sLen * i.size + news.length) ∧
      (∀ k, k ≠ g → w1.heap[k]? = w.heap[k]?) ∧ w1.heap.size = w.heap.size ∧ w1.os = w.os ∧ w1.tape = w.tape ∧ w1.output = w.output := by
  have hf := run_firstCells_some (P := P) w i.size m a m c news hl hnews
  obtain ⟨w1, c', e1, e2, e3, e4⟩ := run_storeCells (P := P) g E news (sLen * i.size) 0 w cur hg (by simpa using hfit) h1
  refine ⟨w1, c', ?_, e2, by simpa using e3, e4⟩
  unfold Builtin.append_
  simp [underlying, ht, sizeOf, typeInfo, hi, Builtin.lenOf, hroom, hf, add_none, e1]

/-- AN APPEND. -/
theorem append_sound0 (hP : TabOk P tb) (F : Facts mine w0 st a.tmps w μ ok) {T d : Nat} {ty : TypeId} {s x : AV} {sv xv : Value} (hs : AVRel w μ ok s sv) (hx : AVRel w μ ok x xv) {st' : St}
    (h : mdAppend0 tb st T s x d = some (true, st')) : ∃ x' w1 μ', (Builtin.append_ #[T, T] ty #[sv, xv]).run P w = .ok x' w1 ∧ Facts mine w0 st' (a.tmps.setIfInBounds d x') w1 μ' ok := by
  unfold mdAppend0 at h
  split at h
  · rename_i e t bytes s x hT
    obtain ⟨i0, ei, ze, _, _, _, hu, hei, hes, heb, hez, hze, hb0, hts⟩ := hP T _ hT
    have hzs : ze.cells.size = t.size := by have := (hze w (ok true)).length; simpa using this
    split at h
    · rename_i g ys hg
      have hxj : x ≠ .junk := by intro e; subst e; cases hg
      obtain ⟨A, c, news, rfl, src⟩ := getSl_rel F (one_of hxj hx) hg
      have hnl : news.length = ys.length * ei.size := by rw [hes]; exact src.len
      -- a new row
      have fresh : ∀ (st1 : St), Facts mine w0 st1 a.tmps w μ ok → ∀ (f : Bool) (zs : List t.D) (olds : List Value) (old : Nat) (hold : olds.length = zs.length * t.size),
          (∀ b, ok f b → ok (f && g) b) → (∀ b, ok g b → ok (f && g) b) →
          (∀ j (h : j < zs.length), ∃ cs, TRel w (ok f) t zs[j] cs ∧ ∀ q (hq : q < cs.length), olds[j * t.size + q]? = some cs[q]) → (zs ++ ys).length ≤ 9223372036854775807 →
          ∃ μ', Facts mine w0 (st1.put d (.arr (f && g) t (zs ++ ys))) (a.tmps.setIfInBounds d (.slice (some ⟨w.heap.size, 0, none⟩) (zs.length + ys.length) (grownCap w (zs.length + ys.length) old e)))
            (w.drew.alloc (.cells (olds.toArray ++ news.toArray ++ Builtin.zeroCells ze.cells (grownCap w (zs.length + ys.length) old e - (zs.length + ys.length))) e)) μ' ok := by
        intro st1 F1 f zs olds old hold ok1 ok2 hz hmax
        have F2 := F1.drew.alloc (.cells (olds.toArray ++ news.toArray ++ Builtin.zeroCells ze.cells (grownCap w (zs.length + ys.length) old e - (zs.length + ys.length))) e)
        have hmax' : zs.length + ys.length ≤ 9223372036854775807 := by simpa using hmax
        have hcap := grownCap_le_maxLen w (zs.length + ys.length) old e (by simp only [maxLen]; omega)
        have hge := grownCap_ge w (zs.length + ys.length) old e
        simp only [maxLen] at hcap
        refine F2.putNew d (v := .arr (f && g) t (zs ++ ys)) ⟨⟨some w.heap.size, zs.length + ys.length, grownCap w (zs.length + ys.length) old e⟩, rfl, ⟨by simp, hge, by show _ ≤ _; omega,
          .inr ⟨w.heap.size, _, e, rfl, heap_at_new w.drew _, ?_, fun j hj => ?_⟩⟩, fun b hb => ?_⟩
        · have hnl' := src.len
          simp only [Array.size_append, List.size_toArray, hold, hnl', Builtin.zeroCells, Array.size_map, Array.size_range, hzs, ← Nat.add_mul]
          show grownCap w (zs.length + ys.length) old e * t.size ≤ _
          exact Nat.mul_le_mul_right _ (by omega)
        · have stay : ∀ {u : t.D} {cs : List Value} {q : Bool}, (∀ b, ok q b → ok (f && g) b) → TRel w (ok q) t u cs →
              TRel (w.drew.alloc (.cells (olds.toArray ++ news.toArray ++ Builtin.zeroCells ze.cells (grownCap w (zs.length + ys.length) old e - (zs.length + ys.length))) e)) (ok (f && g)) t u cs :=
            fun hq h => TRel.mono (w := w) (fun b hb => (RowKit.Below.heap_alloc w.drew _ _ (F.okB b (F.ok_any hb))).trans rfl) hq h
          rcases Nat.lt_or_ge j zs.length with hlt | hge'
          · obtain ⟨cs, t1, t2⟩ := hz j hlt
            refine ⟨cs, by rw [List.getElem_append_left hlt]; exact stay ok1 t1, fun q hq => ?_⟩
            have hq' : q < t.size := by rw [← t1.length]; exact hq
            have hb : j * t.size + q < olds.length := by
              rw [hold]
              have : (j + 1) * t.size ≤ zs.length * t.size := Nat.mul_le_mul_right _ (by omega)
              rw [Nat.succ_mul] at this; omega
            rw [← t2 q hq, Array.append_assoc, ← Array.getElem?_toList]
            simp only [Array.toList_append]
            rw [List.getElem?_append_left (by simpa using hb)]
          · have hj' : j - zs.length < ys.length := by simp at hj; omega
            obtain ⟨cs, t1, t2⟩ := src.elems (j - zs.length) hj'
            refine ⟨cs, by rw [List.getElem_append_right hge']; exact stay ok2 t1, fun q hq => ?_⟩
            have hq' : q < t.size := by rw [← t1.length]; exact hq
            have hb : (j - zs.length) * t.size + q < news.length := by
              rw [src.len]
              have : (j - zs.length + 1) * t.size ≤ ys.length * t.size := Nat.mul_le_mul_right _ (by omega)
              rw [Nat.succ_mul] at this; omega
            have he : j * t.size + q = olds.length + ((j - zs.length) * t.size + q) := by
              rw [hold, ← Nat.add_assoc, ← Nat.add_mul]; congr 2; omega
            rw [← t2 q hq, Array.append_assoc, ← Array.getElem?_toList, he]
            simp only [Array.toList_append]
            rw [List.getElem?_append_right (by simp), List.getElem?_append_left (by simpa using hb)]
            simp
        · cases hb; exact F1.drew.freshNew _
      -- onto what is nil
      have onNil : ∀ (st1 : St), Facts mine w0 st1 a.tmps w μ ok → ∀ (f : Bool), ys.length * bytes ≤ 140737488355328 → (∀ b, ok g b → ok (f && g) b) → (∀ b, ok f b → ok (f && g) b) →
          ∃ x' w1 μ', (Builtin.append_ #[T, T] ty #[.slice none 0 0, .slice A ys.length c]).run P w = .ok x' w1 ∧ Facts mine w0 (st1.put d (.arr (f && g) t ys)) (a.tmps.setIfInBounds d x') w1 μ' ok := by
        intro st1 F1 f hbound ok2 ok1
        have hys : ys.length ≤ 140737488355328 := Nat.le_trans (Nat.le_mul_of_pos_right _ hb0) hbound
        by_cases hn : ys.length = 0
        · have hy : ys = [] := List.eq_nil_of_length_eq_zero hn
          subst hy
          obtain ⟨μ', F2⟩ := F1.putNew d (v := .arr (f && g) t []) (x := .slice none 0 0) ⟨⟨none, 0, 0⟩, rfl, ⟨rfl, Nat.le_refl _, by show (0 : Nat) ≤ _; omega, .inl ⟨rfl, rfl, rfl⟩⟩, fun b hb => by cases hb⟩
          exact ⟨_, w, μ', run_append_none hu hei none 0 0 (Nat.le_refl _) A c, F2⟩
        · cases A with
          | none => exact absurd (by rw [src.nil rfl]; rfl) hn
          | some ad =>
            have hrun := run_append_nil (P := P) w T ty e ei ze hu hei hez ad ys.length c news hnl (src.cells ad rfl) (by omega) (by omega) (by rw [heb]; omega)
            obtain ⟨μ', F2⟩ := fresh st1 F1 f [] [] 0 (by simp) ok1 ok2 (by simp) (by simp; omega)
            simp only [List.nil_append, List.length_nil, Nat.zero_add, Array.empty_append] at F2
            refine ⟨_, _, μ', hrun, ?_⟩
            simpa using F2
      have weak : ∀ (f g : Bool) b, ok f b → ok (f && g) b := by
        intro f g b hb
        cases f with
        | true => cases g with
          | true => exact hb
          | false => exact F.okT b hb
        | false => exact hb
      have weak' : ∀ (f g : Bool) b, ok g b → ok (f && g) b := by
        intro f g b hb
        cases f with
        | true => exact hb
        | false => exact F.ok_any hb
      split at h
      · -- nil
        simp only [Option.some.injEq, Prod.mk.injEq, decide_eq_true_eq] at h
        obtain ⟨hbound, rfl⟩ := h
        rw [show sv = .slice none 0 0 from hs]
        have := onNil st F true hbound (by simp) (by simpa using weak true g)
        simpa using this
      · rename_i r
        split at h
        · rename_i f t' xs hr
          split at h
          · rename_i xs1 hc
            obtain ⟨rfl, rfl⟩ := castL_eq' hc
            simp only [Option.some.injEq, Prod.mk.injEq, decide_eq_true_eq] at h
            obtain ⟨hbound, rfl⟩ := h
            have hro : (st.ow r).isOwner = true := by rw [hr]; rfl
            have F1 := F.drop r
            obtain ⟨rfl, _⟩ := (hs : SVRel w μ ok (.hot r none) sv)
            obtain ⟨g1, g2, g3, g4⟩ := arr_of F hr
            have hlen : xs.length + ys.length ≤ 140737488355328 := Nat.le_trans (Nat.le_mul_of_pos_right _ hb0) hbound
            rcases g4 with ⟨k1, rfl, k3⟩ | ⟨b, cur, E, k1, k2, k3, k4⟩
            · have hsl : slv (μ r) none = .slice none 0 0 := by
                unfold slv; simp at g1; rw [k1, Option.getD_none, k3, g1]; rfl
              rw [hsl]
              have := onNil _ F1 f (by simpa using hbound) (weak' f g) (weak f g)
              simpa using this
            · have hsl : slv (μ r) none = .slice (some ⟨b, 0, none⟩) xs.length (μ r).cap := by unfold slv; rw [k1, Option.getD_none, g1]; rfl
              rw [hsl]
              by_cases hy : ys.length = 0
              · -- nothing is added
                have hy' : ys = [] := List.eq_nil_of_length_eq_zero hy
                subst hy'
                have hrun := run_append_none (w := w) (ty := ty) hu hei (some ⟨b, 0, none⟩) xs.length (μ r).cap (by omega) A c
                have hnew : NewRel mine w0 (St.upd (st.kill r) r .junk) w μ ok (.arr (f && g) t xs) (slv (μ r) none) := by
                  refine ⟨μ r, rfl, ⟨g1, g2, g3, .inr ⟨b, cur, E, k1, k2, k3, fun j hj => ?_⟩⟩, fun b' hb' => ?_⟩
                  · obtain ⟨cs, t1, t2⟩ := k4 j hj
                    exact ⟨cs, TRel.mono (fun _ _ => rfl) (weak f g) t1, t2⟩
                  · rw [k1] at hb'; cases hb'
                    have hB := F.ownB r b hro k1
                    exact ⟨hB.1, hB.2.1, hB.2.2, fun i hi hib => (drop_owner hi).1 (F.inj i r b (drop_owner hi).2 hro hib k1)⟩
                obtain ⟨μ', F2⟩ := F1.putNew d hnew
                refine ⟨_, w, μ', hrun, ?_⟩
                rw [hsl] at F2
                simpa using F2
              · obtain ⟨ad, rfl⟩ : ∃ ad, A = some ad := by
                  cases A with
                  | none => exact absurd (by rw [src.nil rfl]; rfl) hy
                  | some ad => exact ⟨ad, rfl⟩
                by_cases hroom : xs.length + ys.length ≤ (μ r).cap
                · -- there is room
                  have hfit : xs.length * ei.size + news.length ≤ cur.size := by
                    rw [hnl, ← Nat.add_mul, hes]
                    exact Nat.le_trans (Nat.mul_le_mul_right _ hroom) k3
                  obtain ⟨w1, c', e1, e2, e3, e4, e5, e6, e7, e8⟩ := run_append_room' (ty := ty) hu hei b xs.length (μ r).cap cur k2 ad ys.length c news hnl (src.cells ad rfl) src.one hroom hfit
                  have hB := F.ownB r b hro k1
                  have hok : ∀ fr k, ok fr k → w1.heap[k]? = w.heap[k]? := fun fr k hk => e4 k fun e => hB.2.2 (e ▸ F.ok_any hk)
                  have F2 := F1.step (w1 := w1) (ok1 := ok) (fun k hk => hok false k hk) (fun i k hi hk => e4 k fun e => (drop_owner hi).1 (F.inj i r b (drop_owner hi).2 hro (e ▸ hk) k1)) (by omega) (fun _ _ h => h)
                    (fun k hk => by rw [e5]; exact F.okB k hk) F.okT F.okF (fun i k hi hk => (F1.ownB i k hi hk).2.2) F.okS
                    ⟨e6.trans F.fr.os, e7.trans F.fr.tape, e8.trans F.fr.output, by rw [e5]; exact F.fr.size, fun k hk hm => by
                      rw [e4 k fun e => ?_]
                      · exact F.fr.block k hk hm
                      · subst e
                        rcases hB.2.1 with h | h
                        · omega
                        · exact hm h⟩
                  have hcg : ∀ k, c'[k]? = if xs.length * t.size ≤ k ∧ k < xs.length * t.size + news.length then news[k - xs.length * t.size]? else cur[k]? := by
                    intro k
                    rw [← Array.getElem?_toList, e3, hes, getElem?_splice _ _ _ _ (by rw [hes] at hfit; simpa using hfit)]
                    simp only [Array.getElem?_toList]
                  have hnew : NewRel mine w0 (St.upd (st.kill r) r .junk) w1 μ ok (.arr (f && g) t (xs ++ ys)) (.slice (some ⟨b, 0, none⟩) (xs.length + ys.length) (μ r).cap) := by
                    refine ⟨⟨some b, xs.length + ys.length, (μ r).cap⟩, rfl, ⟨by simp, hroom, g3, .inr ⟨b, c', E, rfl, e2, ?_, fun j hj => ?_⟩⟩, fun b' hb' => ?_⟩
                    · have : c'.size = cur.size := by
                        have := congrArg List.length e3
                        simp at this; omega
                      rw [this]; exact k3
                    · rcases Nat.lt_or_ge j xs.length with hlt | hge'
                      · obtain ⟨cs, t1, t2⟩ := k4 j hlt
                        refine ⟨cs, by rw [List.getElem_append_left hlt]; exact TRel.mono (hok f) (weak f g) t1, fun q hq => ?_⟩
                        have hq' : q < t.size := by rw [← t1.length]; exact hq
                        have : (j + 1) * t.size ≤ xs.length * t.size := Nat.mul_le_mul_right _ (by omega)
                        rw [Nat.succ_mul] at this
                        rw [hcg, if_neg (by omega)]; exact t2 q hq
                      · have hj' : j - xs.length < ys.length := by simp at hj; omega
                        obtain ⟨cs, t1, t2⟩ := src.elems (j - xs.length) hj'
                        refine ⟨cs, by rw [List.getElem_append_right hge']; exact TRel.mono (hok g) (weak' f g) t1, fun q hq => ?_⟩
                        have hq' : q < t.size := by rw [← t1.length]; exact hq
                        have hb : (j - xs.length) * t.size + q < news.length := by
                          rw [src.len]
                          have : (j - xs.length + 1) * t.size ≤ ys.length * t.size := Nat.mul_le_mul_right _ (by omega)
                          rw [Nat.succ_mul] at this; omega
                        have he : j * t.size + q = xs.length * t.size + ((j - xs.length) * t.size + q) := by
                          rw [← Nat.add_assoc, ← Nat.add_mul]; congr 2; omega
                        rw [hcg, he, if_pos (by omega), Nat.add_sub_cancel_left]; exact t2 q hq
                    · cases hb'
                      exact ⟨by rw [e5]; exact hB.1, hB.2.1, hB.2.2, fun i hi hib => (drop_owner hi).1 (F.inj i r b (drop_owner hi).2 hro hib k1)⟩
                  obtain ⟨μ', F3⟩ := F2.putNew d hnew
                  exact ⟨_, w1, μ', e1, F3⟩
                · -- it grows
                  let olds := cur.toList.take (xs.length * t.size)
                  have hxs : xs.length * t.size ≤ cur.size := Nat.le_trans (Nat.mul_le_mul_right _ (by omega)) k3
                  have hol : olds.length = xs.length * t.size := by simp [olds]; omega
                  have holds : ∀ j v, olds[j]? = some v → w.cell? ((⟨b, 0, none⟩ : Addr).add j) = some v := by
                    intro j v hj
                    rw [add_none, cell_block k2, Nat.zero_add]
                    simp only [olds, List.getElem?_take] at hj
                    split at hj
                    · simpa using hj
                    · cases hj
                  have hrun := run_append_grow (P := P) w T ty e ei ze hu hei hez ⟨b, 0, none⟩ xs.length (μ r).cap olds (by rw [hes]; exact hol) holds ad ys.length c news hnl (src.cells ad rfl) (by omega) (by omega)
                    (by rw [heb]; exact growslice_fits (by omega) hbound)
                  obtain ⟨μ', F2⟩ := fresh _ F1 f xs olds (μ r).cap hol (weak f g) (weak' f g) (fun j hj => by
                    obtain ⟨cs, t1, t2⟩ := k4 j hj
                    refine ⟨cs, t1, fun q hq => ?_⟩
                    have hq' : q < t.size := by rw [← t1.length]; exact hq
                    have : (j + 1) * t.size ≤ xs.length * t.size := Nat.mul_le_mul_right _ (by omega)
                    rw [Nat.succ_mul] at this
                    simp only [olds]
                    rw [List.getElem?_take, if_pos (by omega), Array.getElem?_toList]; exact t2 q hq) (by simp; omega)
                  exact ⟨_, _, μ', hrun, F2⟩
          · cases h
        · cases h
      · cases h
    · cases h
  · cases h
theorem newArr_sound {tm : Array Value} (F : Facts mine w0 st tm w μ ok) (d : Nat) : Facts mine w0 (newArr st d) tm w μ ok := by
  unfold newArr
  split
  · rename_i t xs hd
    cases hf : t.flat with
    | false => exact F
    | true =>
      simp only [cond_true]
      have hat : ∀ i, St.at (List.set st d (.arr true t xs)) i = st.at i ∨ (i = d ∧ St.at (List.set st d (.arr true t xs)) i = .arr true t xs) := by
        intro i
        rw [St.at_set]
        split
        · rename_i h; exact .inr ⟨h.1.symm, rfl⟩
        · exact .inl rfl
      have hown : ∀ i, (St.ow (List.set st d (.arr true t xs)) i).isOwner = (st.ow i).isOwner := by
        intro i
        unfold St.ow
        rcases hat i with e | ⟨rfl, e⟩
        · rw [e]
        · rw [e, hd]; rfl
      have hun : ∀ i, St.ow (List.set st d (.arr true t xs)) i = st.ow i ∨ (i = d ∧ St.ow (List.set st d (.arr true t xs)) i = .arr true t xs) := by
        intro i
        unfold St.ow
        rcases hat i with e | ⟨e1, e⟩
        · rw [e]; exact .inl rfl
        · rw [e]; exact .inr ⟨e1, rfl⟩
      have howd : st.ow d = .arr false t xs := by unfold St.ow; rw [hd]; rfl
      have hgi : ∀ i, (St.at (List.set st d (.arr true t xs)) i).isGho = (st.at i).isGho := by
        intro i
        rcases hat i with e | ⟨rfl, e⟩
        · rw [e]
        · rw [e, hd]; rfl
      refine ⟨fun i => ?_, fun i => ?_, F.size, fun i h1 h2 => by rw [hgi]; exact F.gho i h1 (by simpa using h2), fun i h1 => by rw [hgi]; exact F.real i h1, by rw [List.length_set]; exact F.len, F.pin, fun i b h1 h2 => F.ownB i b (by rw [← hown]; exact h1) h2, fun i j b h1 h2 => F.inj i j b (by rw [← hown]; exact h1) (by rw [← hown]; exact h2), F.okB, F.okT, F.okF, F.okS, F.fr⟩
      · rcases hat i with e | ⟨rfl, e⟩
        · rw [e]; exact F.slots i
        · rw [e]
          have := F.slots i
          rw [hd] at this
          exact this
      · rcases hun i with e | ⟨rfl, e⟩
        · rw [e]; exact F.owns i
        · rw [e]
          have := F.owns i
          rw [howd] at this
          obtain ⟨g1, g2, g3, g4⟩ := this
          refine ⟨g1, g2, g3, ?_⟩
          rcases g4 with g4 | ⟨b, c, E, k1, k2, k3, k4⟩
          · exact .inl g4
          · refine .inr ⟨b, c, E, k1, k2, k3, fun j hj => ?_⟩
            obtain ⟨cs, t1, t2⟩ := k4 j hj
            exact ⟨cs, TRel.flat hf t1, t2⟩
  · exact F

theorem append_sound (hP : TabOk P tb) (F : Facts mine w0 st a.tmps w μ ok) {T d : Nat} {ty : TypeId} {s x : AV} {sv xv : Value} (hs : AVRel w μ ok s sv) (hx : AVRel w μ ok x xv) {st' : St}
    (h : mdAppend tb st T s x d = some (true, st')) : ∃ x' w1 μ', (Builtin.append_ #[T, T] ty #[sv, xv]).run P w = .ok x' w1 ∧ Facts mine w0 st' (a.tmps.setIfInBounds d x') w1 μ' ok := by
  unfold mdAppend at h
  split at h
  · rename_i g st1 h0
    cases h
    obtain ⟨x', w1, μ', e, F'⟩ := append_sound0 hP F (ty := ty) hs hx h0
    exact ⟨x', w1, μ', e, newArr_sound F' d⟩
  · cases h

/-- A COPY. -/
theorem copy_sound (hP : TabOk P tb) (F : Facts mine w0 st a.tmps w μ ok) {T d : Nat} {ty T2 : TypeId} {s x : AV} {sv xv : Value} (hs : AVRel w μ ok s sv) (hx : AVRel w μ ok x xv) {st' : St}
    (h : mdCopy tb st T s x d = some (true, st')) : ∃ x' w1 μ', (Builtin.copy_ #[T, T2] ty #[sv, xv]).run P w = .ok x' w1 ∧ Facts mine w0 st' (a.tmps.setIfInBounds d x') w1 μ' ok := by
  unfold mdCopy at h
  split at h
  · rename_i e t bytes r x hT
    obtain ⟨i0, ei, ze, _, _, _, hu, hei, hes, heb, hez, hze, hb0, hts⟩ := hP T _ hT
    split at h
    · rename_i g ys f t' xs hg hr
      have hxj : x ≠ .junk := by intro e; subst e; cases hg
      obtain ⟨A, c, news, rfl, src⟩ := getSl_rel F (one_of hxj hx) hg
      split at h
      · rename_i xs1 hc
        obtain ⟨rfl, rfl⟩ := castL_eq' hc
        cases hf : t.flat with
        | false => rw [hf] at h; cases h
        | true =>
          rw [hf] at h
          simp only [cond_true, Option.some.injEq, Prod.mk.injEq, true_and] at h
          subst h
          have hro : (st.ow r).isOwner = true := by rw [hr]; rfl
          obtain ⟨rfl, _⟩ := (hs : SVRel w μ ok (.hot r none) sv)
          obtain ⟨g1, g2, g3, g4⟩ := arr_of F hr
          obtain ⟨n, hn⟩ : ∃ n, n = Nat.min ys.length xs.length := ⟨_, rfl⟩
          have hnx : n ≤ xs.length := hn ▸ Nat.min_le_right _ _
          have hny : n ≤ ys.length := hn ▸ Nat.min_le_left _ _
          have hint : ∀ w1 : World, AVRel w1 μ ok (.one (.int .i64 ((n : Nat) : Int))) (goInt n) := fun w1 => by
            refine ⟨rfl, ?_⟩
            unfold IntKind.has IntKind.min IntKind.max; simp [IntKind.signed, IntKind.bits]; omega
          have hnl : (news.take (n * ei.size)).length = n * ei.size := by
            rw [List.length_take, src.len, ← hes]
            exact Nat.min_eq_left (Nat.mul_le_mul_right _ hny)
          have hfc : (Builtin.firstCells ei.size n (.slice A ys.length c)).run P w = .ok (news.take (n * ei.size)).toArray w := by
            cases A with
            | none =>
              have : ys = [] := src.nil rfl
              subst this
              obtain rfl : n = 0 := by simpa using hny
              simp [Builtin.firstCells]
            | some ad =>
              refine run_firstCells_some w ei.size n ad ys.length c _ hnl fun j v hj => ?_
              rw [List.getElem?_take] at hj
              split at hj
              · exact src.cells ad rfl j v hj
              · cases hj
          have hlen : (ys.take xs.length ++ xs.drop ys.length).length = xs.length := by simp; omega
          rw [← hn]
          rcases g4 with ⟨k1, hxs, k3⟩ | ⟨b, cur, E, k1, k2, k3, k4⟩
          · subst hxs
            obtain rfl : n = 0 := by simpa using hnx
            have hsl : slv (μ r) none = .slice none 0 0 := by
              unfold slv; simp at g1; rw [k1, Option.getD_none, k3, g1]; rfl
            rw [hsl]
            have hst : St.upd st r (.arr f t (ys.take ([] : List t.D).length ++ ([] : List t.D).drop ys.length)) = st := by
              simp only [List.length_nil, List.take_zero, List.drop_nil, List.append_nil]
              rw [← hr]
              unfold St.upd St.ow
              apply List.ext_getElem?
              intro i
              rw [List.getElem?_set]
              split
              · rename_i e
                subst e
                split
                · rename_i hl
                  have e2 : st[r]? = some (st.at r) := by unfold St.at; rw [List.getD_eq_getElem?_getD, List.getElem?_eq_getElem hl]; rfl
                  rw [e2]
                  cases hq : st.at r with
                  | gho o => cases o <;> rfl
                  | _ => rfl
                · rename_i hl; rw [List.getElem?_eq_none (by omega)]
              · rfl
            rw [hst]
            obtain ⟨μ', F2⟩ := F.putNew d (NewRel.of_av (mine := mine) (w0 := w0) (st := st) rfl (hint w))
            refine ⟨_, w, μ', ?_, F2⟩
            have hfc0 : (Builtin.firstCells ei.size 0 (.slice A ys.length c)).run P w = .ok #[] w := by simpa using hfc
            simp [Builtin.copy_, underlying, hu, sizeOf, typeInfo, hei, Builtin.lenOf, hfc0]
          · have hsl : slv (μ r) none = .slice (some ⟨b, 0, none⟩) xs.length (μ r).cap := by unfold slv; rw [k1, Option.getD_none, g1]; rfl
            rw [hsl]
            have hfit : 0 + 0 + (news.take (n * ei.size)).length ≤ cur.size := by
              rw [hnl, hes]
              have := Nat.mul_le_mul_right t.size (show n ≤ (μ r).cap by omega)
              omega
            obtain ⟨w1, c', e1, e2, e3, e4, e5, e6, e7, e8⟩ := run_storeCells (P := P) b E (news.take (n * ei.size)) 0 0 w cur k2 hfit (fun v hv => src.one v (List.mem_of_mem_take hv))
            have hc' : ∀ k, c'[k]? = if k < n * t.size then news[k]? else cur[k]? := by
              intro k
              rw [← Array.getElem?_toList, e3, getElem?_splice _ _ _ _ (by simpa using hfit)]
              rw [hnl, hes]
              simp only [Nat.zero_add, Nat.zero_le, true_and, Nat.sub_zero, Array.getElem?_toList]
              split
              · rename_i hk; rw [List.getElem?_take, if_pos hk]
              · rfl
            have F1 : Facts mine w0 (St.upd st r (.arr f t (ys.take xs.length ++ xs.drop ys.length))) a.tmps w1 μ ok := by
              refine F.store hro k1 e4 e5 e6 e7 e8 rfl ?_ ⟨by rw [hlen]; exact g1, g2, g3, .inr ⟨b, c', E, k1, e2, ?_, fun j hj => ?_⟩⟩
              · intro hg
                have := F.slots r
                rw [ow_at hr hg] at this
                exact this
              · have : c'.size = cur.size := by
                  have := congrArg List.length e3
                  simp at this; simp at hfit; omega
                rw [this]; exact k3
              · have hj' : j < xs.length := by rw [hlen] at hj; exact hj
                by_cases hjn : j < n
                · have hjy : j < ys.length := by omega
                  obtain ⟨cs, t1, t2⟩ := src.elems j hjy
                  refine ⟨cs, ?_, fun q hq => ?_⟩
                  · rw [List.getElem_append_left (by simp; omega), List.getElem_take]; exact TRel.flat hf t1
                  · have hq' : q < t.size := by rw [← t1.length]; exact hq
                    have : (j + 1) * t.size ≤ n * t.size := Nat.mul_le_mul_right _ (by omega)
                    rw [Nat.succ_mul] at this
                    rw [hc', if_pos (by omega)]; exact t2 q hq
                · have hjy : ys.length ≤ j := by
                    have : n = ys.length ∨ n = xs.length := by rw [hn]; exact (Nat.le_total ys.length xs.length).imp (fun h => Nat.min_eq_left h) (fun h => Nat.min_eq_right h)
                    omega
                  obtain ⟨cs, t1, t2⟩ := k4 j hj'
                  refine ⟨cs, ?_, fun q hq => ?_⟩
                  · have ht : (ys.take xs.length).length = ys.length := by simp; omega
                    rw [List.getElem_append_right (by omega), List.getElem_drop]
                    simp only [ht, show ys.length + (j - ys.length) = j by omega]
                    exact TRel.flat hf t1
                  · have hq' : q < t.size := by rw [← t1.length]; exact hq
                    have : n * t.size ≤ j * t.size := Nat.mul_le_mul_right _ (by omega)
                    rw [hc', if_neg (by omega)]; exact t2 q hq
            obtain ⟨μ', F2⟩ := F1.putNew d (NewRel.of_av rfl (hint w1))
            refine ⟨_, w1, μ', ?_, F2⟩
            have hmin : min ys.length xs.length = n := hn.symm
            have hmin' : Nat.min ys.length xs.length = n := hn.symm
            simp [Builtin.copy_, underlying, hu, sizeOf, typeInfo, hei, Builtin.lenOf, hmin, hmin', hfc, e1]
      · cases h
    · cases h
  · cases h

theorem map_sound (hP : TabOk P tb) (F : Facts mine w0 st a.tmps w μ ok) {T : TypeId} {m k x : AV} {mv kv xv : Value} (hm : AVRel w μ ok m mv) (hk : AVRel w μ ok k kv) (hx : AVRel w μ ok x xv) {st' : St}
    (h : mdMap tb st T m k x = some (true, st')) : ∃ w1, (Instr.mapUpdate T mv kv xv).run P w = .ok () w1 ∧ Facts mine w0 st' a.tmps w1 μ ok := by
  unfold mdMap at h
  split at h
  · rename_i kt vt s hT
    split at h
    · rename_i fr kt' vt' es hs
      split at h
      · rename_i es' y f z g hc hy hz
        simp only [Option.some.injEq, Prod.mk.injEq, true_and] at h
        subst h
        obtain ⟨rfl, rfl, e⟩ := castM_eq hc
        obtain rfl : es = es' := e
        obtain ⟨b, hb, hmr⟩ := mapO_of F hs
        obtain ⟨b', hb', rfl⟩ := (hm : SVRel0 w μ ok (.mref s) mv)
        rw [hb] at hb'; cases hb'
        obtain ⟨i, kT, vT, vi, zv, _, _, _, h4, hK, _⟩ := hP T _ hT
        have hso : (st.ow s).isOwner = true := by rw [hs]; rfl
        obtain ⟨w1, e1, e4, e5, e6, e7, e8, e9⟩ := mapUpdate_run (P := P) F.okT h4 hK hmr (toD_rel F.okT hk hy) (toD_rel F.okT hx hz) (F.ownB s b hso hb).2.2
        refine ⟨w1, e1, F.store hso hb e4 e5 e6 e7 e8 rfl ?_ ⟨b, hb, e9⟩⟩
        intro hg
        have := F.slots s
        rw [ow_at hs hg] at this
        exact this
      · cases h
    · cases h
  · cases h
end

end Go.AM
