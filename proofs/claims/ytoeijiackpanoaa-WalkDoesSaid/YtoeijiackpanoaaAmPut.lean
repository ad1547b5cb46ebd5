/- An abstract machine over the model's own code: what a write of a slot leaves true. -/
import Derived.Test.YtoeijiackpanoaaAmRel
set_option linter.unusedVariables false
set_option linter.unusedSimpArgs false
namespace Go.AM

theorem St.at_set (st : St) (d i : Nat) (v : AV) : St.at (List.set st d v) i = if d = i ∧ d < st.length then v else st.at i := by
  unfold St.at
  simp only [List.getD_eq_getElem?_getD, List.getElem?_set]
  by_cases h : d = i
  · subst h
    by_cases h2 : d < st.length
    · simp [h2]
    · simp [h2]
  · simp [h]
theorem St.at_set_self (st : St) (d : Nat) (v : AV) (h : d < st.length) : St.at (List.set st d v) d = v := by rw [St.at_set]; simp [h]
theorem St.at_set_ne (st : St) {d i : Nat} (v : AV) (h : d ≠ i) : St.at (List.set st d v) i = st.at i := by rw [St.at_set]; simp [h]
theorem St.at_out (st : St) (d : Nat) (h : st.length ≤ d) : st.at d = .one .junk := by
  unfold St.at; simp [List.getD_eq_getElem?_getD, List.getElem?_eq_none h]
theorem St.at_kill (st : St) (d i : Nat) : (st.kill d).at i = (st.at i).kill d := by
  unfold St.at St.kill
  simp only [List.getD_eq_getElem?_getD, List.getElem?_map]
  cases st[i]? <;> rfl
theorem St.length_kill (st : St) (d : Nat) : (st.kill d).length = st.length := by simp [St.kill]
theorem St.length_put (st : St) (d : Nat) (v : AV) : (st.put d v).length = st.length := by
  unfold St.put; cases (st.at d).isGho <;> cases ((st.at d).isOwner || v.isOwner) <;> simp [St.length_kill]
theorem AV.un_kill (a : AV) (d : Nat) : (a.kill d).un = a.un.kill d := by
  cases a with
  | gho o => cases o <;> rfl
  | _ => rfl
theorem AV.isGho_kill (a : AV) (d : Nat) : (a.kill d).isGho = a.isGho := by
  cases a with
  | gho o => cases o <;> rfl
  | _ => rfl
theorem AV.un_id {a : AV} (h : a.isGho = false) : a.un = a := by cases a <;> first | rfl | cases h
theorem AV.isGho_owner {a : AV} (h : a.isOwner = true) : a.isGho = false := by cases a <;> first | rfl | cases h
theorem AV.isGho_un (a : AV) : a.un.isGho = false := by
  cases a with
  | gho o => cases o <;> rfl
  | _ => rfl
theorem St.ow_kill (st : St) (d i : Nat) : (st.kill d).ow i = (st.ow i).kill d := by unfold St.ow; rw [St.at_kill, AV.un_kill]
theorem St.length_upd (st : St) (i : Nat) (v : AV) : (st.upd i v).length = st.length := by simp [St.upd]
theorem St.ow_out (st : St) (d : Nat) (h : st.length ≤ d) : st.ow d = .one .junk := by unfold St.ow; rw [St.at_out _ _ h]; rfl
theorem ov_av {v : AV} (h : v.isOwner = true ∨ v = .one .junk) : v.ov.av = v := by
  rcases h with h | rfl
  · cases v <;> first | rfl | cases h
  · rfl
theorem St.ow_upd_self (st : St) (i : Nat) {v : AV} (h : v.isOwner = true ∨ v = .one .junk) (hi : i < st.length) : (st.upd i v).ow i = v := by
  unfold St.ow St.upd
  rw [St.at_set_self _ _ _ hi]
  unfold AV.re
  split
  · exact ov_av h
  · rcases h with h | rfl
    · exact AV.un_id (AV.isGho_owner h)
    · rfl
theorem St.at_upd_ne (st : St) {i j : Nat} (v : AV) (h : i ≠ j) : (st.upd i v).at j = st.at j := St.at_set_ne st _ h
theorem St.ow_upd_ne (st : St) {i j : Nat} (v : AV) (h : i ≠ j) : (st.upd i v).ow j = st.ow j := by unfold St.ow; rw [St.at_upd_ne st v h]
theorem St.isGho_upd (st : St) (i j : Nat) {v : AV} (h : v.isGho = false) : ((st.upd i v).at j).isGho = (st.at j).isGho := by
  by_cases e : i = j
  · subst e
    by_cases hl : i < st.length
    · unfold St.upd
      rw [St.at_set_self _ _ _ hl]
      cases hs : st.at i with
      | gho o => rfl
      | _ => exact h
    · rw [St.at_out _ _ (by rw [St.length_upd]; omega), St.at_out _ _ (by omega)]
  · rw [St.at_upd_ne _ _ e]

theorem SV.kill_self (d : Nat) (v : SV) : (v.kill d).refers d = false := by
  unfold SV.kill
  cases h : v.refers d
  · exact h
  · rfl
theorem SV.kill_refers {d s : Nat} {v : SV} (h : (v.kill d).refers s = true) : v.refers s = true := by
  unfold SV.kill at h
  cases hd : v.refers d <;> simp [hd] at h
  · exact h
  · simp [SV.refers] at h
theorem AV.isOwner_kill (d : Nat) (a : AV) : (a.kill d).isOwner = a.isOwner := by
  cases a with
  | gho o => cases o <;> rfl
  | _ => rfl
theorem any_kill_self (d : Nat) (cs : List SV) : (cs.map (SV.kill d)).any (SV.refers d) = false := by
  simp only [List.any_map, List.any_eq_false]
  intro x _
  simp [SV.kill_self]
theorem AV.kill_self (d : Nat) (a : AV) : (a.kill d).refers d = false := by
  cases a with
  | one v => exact SV.kill_self d v
  | agg cs => exact any_kill_self d cs
  | tup l =>
    simp only [AV.kill, AV.refers, List.any_map, List.any_eq_false]
    intro p _
    simp only [Bool.not_eq_true]
    exact any_kill_self d _
  | own cs => exact any_kill_self d cs
  | arr fr t xs => rfl
  | mapO fr kt vt es => rfl
  | gho o => cases o <;> first | rfl | exact any_kill_self d _

section
variable {w : World} {μ : Locs} {ok : OK}
theorem SVRel.kill {x : SV} {v : Value} (d : Nat) (h : SVRel w μ ok x v) : SVRel w μ ok (x.kill d) v := by
  unfold SV.kill
  cases x.refers d
  · exact h
  · exact SVRel.one h
theorem All2.kill {cs : List SV} {vs : List Value} (d : Nat) (h : All2 (SVRel w μ ok) cs vs) : All2 (SVRel w μ ok) (cs.map (SV.kill d)) vs :=
  h.map_left _ fun _ _ h => h.kill d
theorem AVRel.kill {x : AV} {v : Value} (d : Nat) (h : AVRel w μ ok x v) : AVRel w μ ok (x.kill d) v := by
  cases x with
  | one x =>
    by_cases hj : x = .junk
    · subst hj; show AVRel w μ ok (.one (SV.kill d .junk)) v; trivial
    · rw [AVRel.eq1 hj] at h
      show AVRel w μ ok (.one (x.kill d)) v
      by_cases hk : x.kill d = .junk
      · rw [hk]; trivial
      · rw [AVRel.eq1 hk]; exact h.kill d
  | agg cs => obtain ⟨vs, e, hh⟩ := h; exact ⟨vs, e, hh.kill d⟩
  | tup l =>
    obtain ⟨vs, e, hh⟩ := h
    refine ⟨vs, e, hh.map_left _ fun p v hp => ?_⟩
    obtain ⟨f, cs⟩ := p
    cases f with
    | true => obtain ⟨us, e, hu⟩ := hp; exact ⟨us, e, hu.kill d⟩
    | false => obtain ⟨x, e, hx⟩ := hp; exact ⟨x.kill d, by simp [show cs = [x] from e], hx.kill d⟩
  | own cs => exact h.elim
  | arr fr t xs => exact h.elim
  | mapO fr kt vt es => exact h.elim
  | gho o => exact h.elim
theorem SlotRel.kill {i : Nat} {x : AV} {v : Value} (d : Nat) (h : SlotRel w μ ok i x v) : SlotRel w μ ok i (x.kill d) v := by
  cases x with
  | own cs => exact h
  | arr fr t xs => exact h
  | mapO fr kt vt es => exact h
  | gho o => cases o <;> trivial
  | one x => exact AVRel.kill (x := .one x) d h
  | agg cs => exact AVRel.kill (x := .agg cs) d h
  | tup l => exact AVRel.kill (x := .tup l) d h
theorem OwnRel.kill {i : Nat} {x : AV} (d : Nat) (h : OwnRel w μ ok i x) : OwnRel w μ ok i (x.kill d) := by
  cases x with
  | own cs => obtain ⟨b, c, E, h1, h2, h3⟩ := h; exact ⟨b, c, E, h1, h2, h3.kill d⟩
  | arr fr t xs => exact h
  | mapO fr kt vt es => exact h
  | gho o => cases o <;> trivial
  | one x => trivial
  | agg cs => trivial
  | tup l => trivial
theorem SlotRel.of_av {i : Nat} {x : AV} {v : Value} (ho : x.isOwner = false) (h : AVRel w μ ok x v) : SlotRel w μ ok i x v := by
  cases x <;> first | exact h | trivial | cases ho
end

theorem SlotRel.mono {w w' : World} {μ μ' : Locs} {ok ok' : OK} (hw : ∀ fr b, ok fr b → w'.heap[b]? = w.heap[b]?) (hok : ∀ fr b, ok fr b → ok' fr b)
    {i : Nat} {x : AV} {v : Value} (hμ : ∀ s, x.refers s = true → μ' s = μ s) (hi : x.isOwner = true → μ' i = μ i) (h : SlotRel w μ ok i x v) : SlotRel w' μ' ok' i x v := by
  cases x with
  | own cs => obtain ⟨b, h1, h2⟩ := h; exact ⟨b, by rw [hi rfl]; exact h1, h2⟩
  | arr fr t xs => show v = slv (μ' i) none; rw [hi rfl]; exact h
  | mapO fr kt vt es => obtain ⟨b, h1, h2⟩ := h; exact ⟨b, by rw [hi rfl]; exact h1, h2⟩
  | gho o => trivial
  | one x => exact AVRel.mono (x := .one x) hw hok hμ h
  | agg cs => exact AVRel.mono (x := .agg cs) hw hok hμ h
  | tup l => exact AVRel.mono (x := .tup l) hw hok hμ h

theorem OwnRel.mono {w w' : World} {μ μ' : Locs} {ok ok' : OK} (hw : ∀ fr b, ok fr b → w'.heap[b]? = w.heap[b]?) (hok : ∀ fr b, ok fr b → ok' fr b)
    {i : Nat} {x : AV} (hμ : ∀ s, x.refers s = true → μ' s = μ s) (hi : x.isOwner = true → μ' i = μ i) (ho : ∀ b, x.isOwner = true → (μ i).b = some b → w'.heap[b]? = w.heap[b]?)
    (h : OwnRel w μ ok i x) : OwnRel w' μ' ok' i x := by
  cases x with
  | own cs =>
    obtain ⟨b, c, E, h1, h2, h3⟩ := h
    exact ⟨b, c, E, by rw [hi rfl]; exact h1, by rw [ho b rfl h1]; exact h2, h3.imp_mem fun a v ha hav => SVRel.mono hw hok (fun s hs => hμ s (List.any_eq_true.2 ⟨a, ha, hs⟩)) hav⟩
  | arr fr t xs =>
    obtain ⟨h1, h2, h3, h4⟩ := h
    refine ⟨by rw [hi rfl]; exact h1, by rw [hi rfl]; exact h2, by rw [hi rfl]; exact h3, ?_⟩
    rcases h4 with h4 | ⟨b, c, E, g1, g2, g3, g4⟩
    · exact .inl (by rw [hi rfl]; exact h4)
    · refine .inr ⟨b, c, E, by rw [hi rfl]; exact g1, by rw [ho b rfl g1]; exact g2, by rw [hi rfl]; exact g3, fun j hj => ?_⟩
      obtain ⟨cs, t1, t2⟩ := g4 j hj
      exact ⟨cs, TRel.mono (hw fr) (hok fr) t1, t2⟩
  | mapO fr kt vt es =>
    obtain ⟨b, h1, h2⟩ := h
    exact ⟨b, by rw [hi rfl]; exact h1, h2.mono (hw fr) (hok fr) (ho b rfl h1)⟩
  | gho o => trivial
  | one x => trivial
  | agg cs => trivial
  | tup l => trivial

section
variable {mine : Cx} {w0 : World} {st : St} {tm : Array Value} {w : World} {μ : Locs} {ok : OK}

/-- The world has grown, and what is stable. -/
theorem Facts.step (F : Facts mine w0 st tm w μ ok) {w1 : World} {ok1 : OK} (hw : ∀ b, ok false b → w1.heap[b]? = w.heap[b]?)
    (ho : ∀ i b, (st.ow i).isOwner = true → (μ i).b = some b → w1.heap[b]? = w.heap[b]?) (hsz : w.heap.size ≤ w1.heap.size)
    (hok : ∀ f b, ok f b → ok1 f b) (hB : ∀ b, ok1 false b → b < w1.heap.size) (hT : ∀ b, ok1 true b → ok1 false b) (hF : ∀ b, ok1 true b → w0.heap.size ≤ b)
    (hno : ∀ i b, (st.ow i).isOwner = true → (μ i).b = some b → ¬ ok1 false b) (hS : ∀ b, ok1 false b → w0.heap.size ≤ b ∨ mine.base b) (fr : Fr mine.mine w0 w1) : Facts mine w0 st tm w1 μ ok1 where
  slots i := (F.slots i).mono (fun f b h => hw b (F.ok_any h)) hok (fun _ _ => rfl) (fun _ => rfl)
  owns i := (F.owns i).mono (fun f b h => hw b (F.ok_any h)) hok (fun _ _ => rfl) (fun _ => rfl) (fun b => ho i b)
  size := F.size
  gho := F.gho
  real := F.real
  len := F.len
  pin := F.pin
  ownB i b h1 h2 := ⟨Nat.lt_of_lt_of_le (F.ownB i b h1 h2).1 hsz, (F.ownB i b h1 h2).2.1, hno i b h1 h2⟩
  inj := F.inj
  okB := hB
  okT := hT
  okF := hF
  okS := hS
  fr := fr

theorem getD_set (tm : Array Value) (d i : Nat) (x u : Value) : (tm.setIfInBounds d x).getD i u = if d = i ∧ d < tm.size then x else tm.getD i u := by
  simp only [← Array.getElem?_toList, Array.getD_eq_getD_getElem?, Array.toList_setIfInBounds, List.getElem?_set, Array.length_toList]
  by_cases h : d = i
  · subst h
    by_cases h2 : d < tm.size
    · simp [h2]
    · simp [h2]
  · simp [h]

theorem SlotRel.junk {i : Nat} {v : Value} : SlotRel w μ ok i (.one .junk) v := trivial

theorem AVRel.noGho {v : AV} {x : Value} (h : AVRel w μ ok v x) : v.isGho = false := by cases v <;> first | rfl | exact h.elim

/-- A slot of the frame, or none. -/
theorem Facts.slot (F : Facts mine w0 st tm w μ ok) {d : Nat} (h : (st.at d).isGho = false) (hl : d < st.length) : d < tm.size := by
  rw [F.size]
  rcases Nat.lt_or_ge d mine.n with hd | hd
  · exact hd
  · rw [F.gho d hd hl] at h; cases h
/-- A ghost is not written. -/
theorem Facts.putG (F : Facts mine w0 st tm w μ ok) {d : Nat} {x : Value} (h : (st.at d).isGho = true) : Facts mine w0 st (tm.setIfInBounds d x) w μ ok := by
  have : tm.size ≤ d := by
    rw [F.size]
    rcases Nat.lt_or_ge d mine.n with hd | hd
    · rw [F.real d hd] at h; cases h
    · exact hd
  have e : tm.setIfInBounds d x = tm := by simp [Array.setIfInBounds, show ¬ d < tm.size by omega]
  rw [e]; exact F

/-- A slot is written with what is no owner. -/
theorem Facts.putV (F : Facts mine w0 st tm w μ ok) (d : Nat) {v : AV} {x : Value} (hv : AVRel w μ ok v x) (ho : v.isOwner = false) :
    Facts mine w0 (st.put d v) (tm.setIfInBounds d x) w μ ok := by
  cases hg : (st.at d).isGho with
  | true =>
    have : st.put d v = st := by unfold St.put; rw [hg]; rfl
    rw [this]; exact F.putG hg
  | false =>
  have key : ∀ (st' : St) (v' : AV), (∀ i, i ≠ d → st'.at i = st.at i ∨ st'.at i = (st.at i).kill d) → (d < st.length → st'.at d = v') → st'.length = st.length → AVRel w μ ok v' x → v'.isOwner = false →
      Facts mine w0 st' (tm.setIfInBounds d x) w μ ok := by
    intro st' v' h1 h2 h3 h4 h5
    have hout : st.length ≤ d → st'.at d = .one .junk := fun h => St.at_out _ _ (by omega)
    have hgv : v'.isGho = false := h4.noGho
    have how : ∀ i, i ≠ d → st'.ow i = st.ow i ∨ st'.ow i = (st.ow i).kill d := fun i hi => by
      unfold St.ow
      rcases h1 i hi with h | h
      · rw [h]; exact .inl rfl
      · rw [h, AV.un_kill]; exact .inr rfl
    have howd : (st'.ow d).isOwner = false ∧ (d < st.length → st'.ow d = v') := by
      unfold St.ow
      by_cases hl : d < st.length
      · rw [h2 hl, AV.un_id hgv]; exact ⟨h5, fun _ => rfl⟩
      · rw [hout (by omega)]; exact ⟨rfl, fun h => absurd h hl⟩
    have hown : ∀ i, (st'.ow i).isOwner = true → i ≠ d ∧ (st.ow i).isOwner = true := by
      intro i hi
      by_cases e : i = d
      · subst e
        rw [howd.1] at hi; cases hi
      · refine ⟨e, ?_⟩
        rcases how i e with h | h
        · rwa [h] at hi
        · rwa [h, AV.isOwner_kill] at hi
    have hgi : ∀ i, (st'.at i).isGho = (st.at i).isGho := by
      intro i
      by_cases e : i = d
      · subst e
        rw [hg]
        by_cases hl : i < st.length
        · rw [h2 hl]; exact hgv
        · rw [hout (by omega)]; rfl
      · rcases h1 i e with h | h
        · rw [h]
        · rw [h, AV.isGho_kill]
    refine ⟨fun i => ?_, fun i => ?_, by rw [Array.size_setIfInBounds]; exact F.size, fun i h4 h5 => by rw [hgi]; exact F.gho i h4 (by rw [← h3]; exact h5), fun i hi => by rw [hgi]; exact F.real i hi, by rw [h3]; exact F.len, F.pin,
      fun i b hi hb => F.ownB i b (hown i hi).2 hb, fun i j b hi hj => F.inj i j b (hown i hi).2 (hown j hj).2, F.okB, F.okT, F.okF, F.okS, F.fr⟩
    · rw [getD_set]
      by_cases e : d = i
      · subst e
        by_cases hl : d < st.length
        · rw [if_pos ⟨rfl, F.slot hg hl⟩, h2 hl]
          exact SlotRel.of_av h5 h4
        · rw [hout (by omega)]; exact SlotRel.junk
      · rw [if_neg (fun h => e h.1)]
        rcases h1 i (Ne.symm e) with h | h
        · rw [h]; exact F.slots i
        · rw [h]; exact (F.slots i).kill d
    · by_cases e : d = i
      · subst e
        by_cases hl : d < st.length
        · rw [howd.2 hl]; cases v' <;> first | trivial | cases h5
        · unfold St.ow; rw [hout (by omega)]; trivial
      · rcases how i (Ne.symm e) with h | h
        · rw [h]; exact F.owns i
        · rw [h]; exact (F.owns i).kill d
  unfold St.put
  rw [hg]
  simp only [cond_false]
  cases hc : ((st.at d).isOwner || v.isOwner) with
  | false =>
    exact key _ v (fun i hi => .inl (St.at_set_ne st v (Ne.symm hi))) (fun hl => St.at_set_self st d v hl) (by simp) hv ho
  | true =>
    refine key _ (v.kill d) (fun i hi => .inr ?_) (fun hl => ?_) (by simp [St.length_kill]) (hv.kill d) (by rw [AV.isOwner_kill]; exact ho)
    · show St.at (List.set (st.kill d) d (v.kill d)) i = _
      rw [St.at_set_ne _ _ (Ne.symm hi), St.at_kill]
    · exact St.at_set_self _ d _ (by rw [St.length_kill]; exact hl)

/-- What refers to a slot is forgotten. -/
theorem Facts.forget (F : Facts mine w0 st tm w μ ok) (d : Nat) : Facts mine w0 (st.kill d) tm w μ ok where
  slots i := by rw [St.at_kill]; exact (F.slots i).kill d
  owns i := by rw [St.ow_kill]; exact (F.owns i).kill d
  size := F.size
  gho i h1 h2 := by rw [St.at_kill, AV.isGho_kill]; exact F.gho i h1 (by simpa [St.length_kill] using h2)
  real i h1 := by rw [St.at_kill, AV.isGho_kill]; exact F.real i h1
  len := by rw [St.length_kill]; exact F.len
  pin := F.pin
  ownB i b h1 h2 := by rw [St.ow_kill, AV.isOwner_kill] at h1; exact F.ownB i b h1 h2
  inj i j b h1 h2 := by rw [St.ow_kill, AV.isOwner_kill] at h1 h2; exact F.inj i j b h1 h2
  okB := F.okB
  okT := F.okT
  okF := F.okF
  okS := F.okS
  fr := F.fr

def upd (μ : Locs) (d : Nat) (l : Loc) : Locs := fun i => if i = d then l else μ i
theorem upd_self (μ : Locs) (d : Nat) (l : Loc) : upd μ d l d = l := by simp [upd]
theorem upd_ne (μ : Locs) {d i : Nat} (l : Loc) (h : i ≠ d) : upd μ d l i = μ i := by simp [upd, h]

/-- A slot is written with what owns a new row. -/
theorem Facts.putO (F : Facts mine w0 st tm w μ ok) (d : Nat) {v : AV} {x : Value} (l : Loc) (ho : v.isOwner = true) (hg : (st.at d).isGho = false) (hd : d < st.length)
    (hs : SlotRel w (upd μ d l) ok d v x) (hown : OwnRel w (upd μ d l) ok d (v.kill d))
    (hb : ∀ b, l.b = some b → b < w.heap.size ∧ (w0.heap.size ≤ b ∨ mine.mine b) ∧ ¬ ok false b ∧ ∀ i, i ≠ d → (st.ow i).isOwner = true → (μ i).b ≠ some b) :
    Facts mine w0 (st.put d v) (tm.setIfInBounds d x) w (upd μ d l) ok := by
  have hput : st.put d v = (st.kill d).set d (v.kill d) := by unfold St.put; rw [hg]; simp [ho]
  rw [hput]
  have hdn := F.slot hg hd
  have hat : ∀ i, i ≠ d → St.at ((st.kill d).set d (v.kill d)) i = (st.at i).kill d := fun i hi => by
    rw [St.at_set_ne _ _ (Ne.symm hi), St.at_kill]
  have hatd : St.at ((st.kill d).set d (v.kill d)) d = v.kill d := St.at_set_self _ d _ (by rw [St.length_kill]; exact hd)
  have hgv : (v.kill d).isGho = false := by rw [AV.isGho_kill]; exact AV.isGho_owner ho
  have how : ∀ i, i ≠ d → St.ow ((st.kill d).set d (v.kill d)) i = (st.ow i).kill d := fun i hi => by
    unfold St.ow; rw [hat i hi, AV.un_kill]
  have howd : St.ow ((st.kill d).set d (v.kill d)) d = v.kill d := by unfold St.ow; rw [hatd, AV.un_id hgv]
  have hμa : ∀ (a : AV) s, (a.kill d).refers s = true → upd μ d l s = μ s := by
    intro a s hs
    refine upd_ne μ l fun e => ?_
    rw [e, AV.kill_self] at hs; cases hs
  refine ⟨fun i => ?_, fun i => ?_, by rw [Array.size_setIfInBounds]; exact F.size, fun i h1 h2 => ?_, fun i h1 => ?_, by rw [List.length_set, St.length_kill]; exact F.len, fun i l' hi => ?_, fun i b hi hb' => ?_, fun i j b hi hj hbi hbj => ?_, F.okB, F.okT, F.okF, F.okS, F.fr⟩
  · rw [getD_set]
    by_cases e : d = i
    · subst e
      rw [if_pos ⟨rfl, hdn⟩, hatd]
      exact hs.kill d
    · rw [if_neg (fun h => e h.1), hat i (Ne.symm e)]
      have hi := (F.slots i).kill d
      cases hgi : (st.at i).isGho with
      | true =>
        cases hsi : st.at i with
        | gho o => cases o <;> trivial
        | _ => rw [hsi] at hgi; cases hgi
      | false => exact hi.mono (fun _ _ _ => rfl) (fun _ _ h => h) (hμa _) (fun _ => upd_ne μ l (Ne.symm e))
  · by_cases e : d = i
    · subst e
      rw [howd]; exact hown
    · rw [how i (Ne.symm e)]
      exact ((F.owns i).kill d).mono (fun _ _ _ => rfl) (fun _ _ h => h) (hμa _) (fun _ => upd_ne μ l (Ne.symm e)) (fun _ _ _ => rfl)
  · by_cases e : i = d
    · subst e
      rw [F.gho i h1 hd] at hg; cases hg
    · rw [hat i e, AV.isGho_kill]; exact F.gho i h1 (by simpa [St.length_kill] using h2)
  · by_cases e : i = d
    · subst e; rw [hatd]; exact hgv
    · rw [hat i e, AV.isGho_kill]; exact F.real i h1
  · obtain ⟨p1, p3, p2⟩ := F.pin i l' hi
    refine ⟨p1, p3, ?_⟩
    rw [upd_ne μ l (by rw [F.size] at hdn; omega)]; exact p2
  · by_cases e : i = d
    · subst e
      rw [upd_self] at hb'
      exact ⟨(hb b hb').1, (hb b hb').2.1, (hb b hb').2.2.1⟩
    · rw [upd_ne μ l e] at hb'
      rw [how i e, AV.isOwner_kill] at hi
      exact F.ownB i b hi hb'
  · by_cases e : i = d
    · subst e
      by_cases e' : j = i
      · exact e'.symm
      · rw [how j e', AV.isOwner_kill] at hj
        rw [upd_self] at hbi
        rw [upd_ne μ l e'] at hbj
        exact absurd hbj ((hb b hbi).2.2.2 j e' hj)
    · rw [how i e, AV.isOwner_kill] at hi
      rw [upd_ne μ l e] at hbi
      by_cases e' : j = d
      · subst e'
        rw [upd_self] at hbj
        exact absurd hbi ((hb b hbj).2.2.2 i e hi)
      · rw [how j e', AV.isOwner_kill] at hj
        rw [upd_ne μ l e'] at hbj
        exact F.inj i j b hi hj hbi hbj

/-- A slot that tells no more than it did: set without a look at owners (what is told of a bool behind a test). -/
theorem Facts.setV (F : Facts mine w0 st tm w μ ok) (d : Nat) {v : AV} (hgd : (st.at d).isGho = false) (hold : (st.at d).isOwner = false) (ho : v.isOwner = false) (hv : AVRel w μ ok v (tm.getD d undef)) :
    Facts mine w0 (List.set st d v) tm w μ ok := by
  have hat : ∀ i, i ≠ d → St.at (List.set st d v) i = st.at i := fun i hi => St.at_set_ne st v (Ne.symm hi)
  have hgv := hv.noGho
  have how : ∀ i, i ≠ d → St.ow (List.set st d v) i = st.ow i := fun i hi => by unfold St.ow; rw [hat i hi]
  have hown : ∀ i, (St.ow (List.set st d v) i).isOwner = true → (st.ow i).isOwner = true := by
    intro i hi
    by_cases e : i = d
    · subst e
      unfold St.ow at hi
      by_cases hl : i < st.length
      · rw [St.at_set_self st i v hl, AV.un_id hgv, ho] at hi; cases hi
      · rw [St.at_out _ _ (by simp; omega)] at hi; cases hi
    · rwa [how i e] at hi
  have hgi : ∀ i, (St.at (List.set st d v) i).isGho = (st.at i).isGho := by
    intro i
    by_cases e : i = d
    · subst e
      by_cases hl : i < st.length
      · rw [St.at_set_self st i v hl, hgv, hgd]
      · rw [St.at_out _ _ (by simp; omega), St.at_out _ _ (by omega)]
    · rw [hat i e]
  refine ⟨fun i => ?_, fun i => ?_, F.size, fun i h1 h2 => by rw [hgi]; exact F.gho i h1 (by simpa using h2), fun i h1 => by rw [hgi]; exact F.real i h1, by rw [List.length_set]; exact F.len, F.pin, fun i b hi hb => F.ownB i b (hown i hi) hb, fun i j b hi hj => F.inj i j b (hown i hi) (hown j hj), F.okB, F.okT, F.okF, F.okS, F.fr⟩
  · by_cases e : i = d
    · subst e
      by_cases hl : i < st.length
      · rw [St.at_set_self st i v hl]; exact SlotRel.of_av ho hv
      · rw [St.at_out _ _ (by simp; omega)]; trivial
    · rw [hat i e]; exact F.slots i
  · by_cases e : i = d
    · subst e
      unfold St.ow
      by_cases hl : i < st.length
      · rw [St.at_set_self st i v hl, AV.un_id hgv]; cases v <;> first | trivial | cases ho
      · rw [St.at_out _ _ (by simp; omega)]; trivial
    · rw [how i e]; exact F.owns i

/-! ### Operands -/
theorem cvS_rel {v : Value} (h : cvS v ≠ .junk) : SVRel w μ ok (cvS v) v := by
  unfold cvS at *
  split <;> try (simp_all; done)
  · exact rfl
  · rename_i k n
    cases hb : hasB k n with
    | false => simp [hb] at h
    | true =>
      simp only [cond_true]
      unfold hasB at hb
      simp at hb
      exact ⟨rfl, hb⟩
  · rename_i s
    cases hb : Nat.ble s.size 9223372036854775807 with
    | false => simp [hb] at h
    | true => exact ⟨rfl, Nat.le_of_ble_eq_true hb⟩
  · exact rfl
  · exact rfl
  · exact rfl
  · exact rfl
end

end Go.AM
