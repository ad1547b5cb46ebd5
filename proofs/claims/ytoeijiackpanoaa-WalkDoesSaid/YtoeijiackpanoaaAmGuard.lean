/- An abstract machine over the model's own code: guarded operations that write nothing need no branch. -/
import Derived.Test.YtoeijiackpanoaaAmCode
set_option linter.unusedVariables false
set_option linter.unusedSectionVars false
set_option linter.unusedSimpArgs false
namespace Go.AM

section
variable {P : Program} {mine : Cx} {w0 : World} {st : St} {a : Act} {w : World} {μ : Locs} {ok : OK} {tb : Tab} {Γ : Orc} {tm : Array Value}

def EntOk (st : St) (tm : Array Value) (w : World) (μ : Locs) (ok : OK) (e : Nat × Nat × Bool × AV) : Prop :=
  e.2.2.2.isOwner = false ∧ ((st.at e.1).isOwner = false ∧ (st.at e.1).isGho = false) ∧
    ((tm.getD e.2.1 undef = .bool e.2.2.1 ∧ AVRel w μ ok e.2.2.2 (tm.getD e.1 undef)) ∨ (tm.getD e.1 undef = undef ∧ tm.getD e.2.1 undef ≠ .bool e.2.2.1) ∨ tm.size ≤ e.1)
theorem getD_out {tm : Array Value} {i : Nat} (h : tm.size ≤ i) : tm.getD i undef = undef := by
  rw [Array.getD_eq_getD_getElem?, Array.getElem?_eq_none h]; rfl
def EOk (E : GE) (st : St) (tm : Array Value) (w : World) (μ : Locs) (ok : OK) : Prop := ∀ e ∈ E, EntOk st tm w μ ok e

theorem bool_ne_undef (b : Bool) : Value.bool b ≠ undef := by unfold undef; intro h; cases h

theorem owner_not_bool (F : Facts mine w0 st tm w μ ok) {s : Nat} {b : Bool} (h : tm.getD s undef = .bool b) : (st.at s).isOwner = false := by
  have := F.slots s
  cases hs : st.at s with
  | own cs => rw [hs] at this; obtain ⟨_, _, e⟩ := this; rw [h] at e; cases e
  | arr f t xs => rw [hs] at this; have e : tm.getD s undef = slv (μ s) none := this; rw [h] at e; cases e
  | mapO f k v es => rw [hs] at this; obtain ⟨_, _, e⟩ := this; rw [h] at e; cases e
  | gho o => rfl
  | one x => rfl
  | agg cs => rfl
  | tup l => rfl

theorem bool_not_gho (F : Facts mine w0 st tm w μ ok) {s : Nat} {b : Bool} (h : tm.getD s undef = .bool b) : (st.at s).isGho = false := by
  have : s < tm.size := by
    rcases Nat.lt_or_ge s tm.size with h' | h'
    · exact h'
    · rw [getD_out h'] at h; exact absurd h.symm (bool_ne_undef b)
  exact F.real s (by rw [← F.size]; exact this)
theorem set_owner {cur : St} {d i : Nat} {v : AV} (ho : v.isOwner = false) (h : (St.at (List.set cur d v) i).isOwner = true) : (cur.at i).isOwner = true := by
  by_cases e : i = d
  · subst e
    by_cases hl : i < cur.length
    · rw [St.at_set_self cur i v hl, ho] at h; cases h
    · rw [St.at_out _ _ (by simp; omega)] at h; cases h
  · rwa [St.at_set_ne cur v (Ne.symm e)] at h

theorem set_gho {cur : St} {d i : Nat} {v : AV} (ho : v.isGho = false) (h : (St.at (List.set cur d v) i).isGho = true) : (cur.at i).isGho = true := by
  by_cases e : i = d
  · subst e
    by_cases hl : i < cur.length
    · rw [St.at_set_self cur i v hl, ho] at h; cases h
    · rw [St.at_out _ _ (by simp; omega)] at h; cases h
  · rwa [St.at_set_ne cur v (Ne.symm e)] at h
theorem geOf_mem : ∀ {E : GE} {i s : Nat} {w : Bool}, geOf E i = some (s, w) → ∃ v, (i, s, w, v) ∈ E := by
  intro E
  induction E with
  | nil => intro i s w h; cases h
  | cons e E ih =>
    obtain ⟨t, s', w', v⟩ := e
    intro i s w h
    simp only [geOf] at h
    cases hb : Nat.beq t i with
    | true =>
      rw [hb] at h
      simp only [cond_true, Option.some.injEq, Prod.mk.injEq] at h
      obtain ⟨rfl, rfl⟩ := h
      obtain rfl := Nat.eq_of_beq_eq_true hb
      exact ⟨v, by simp⟩
    | false =>
      rw [hb] at h
      obtain ⟨u, hu⟩ := ih h
      exact ⟨u, by simp [hu]⟩

theorem geB_mem : ∀ {E : GE} {i : Nat}, geB E i = true → ∃ s w b, (i, s, w, AV.one (.bool b)) ∈ E := by
  intro E
  induction E with
  | nil => intro i h; cases h
  | cons e E ih =>
    obtain ⟨t, s', w', v⟩ := e
    intro i h
    simp only [geB] at h
    cases hb : Nat.beq t i with
    | true =>
      rw [hb] at h
      simp only [cond_true] at h
      obtain rfl := Nat.eq_of_beq_eq_true hb
      split at h
      · rename_i b
        exact ⟨s', w', b, by simp⟩
      · cases h
    | false =>
      rw [hb] at h
      obtain ⟨s, w, b, hu⟩ := ih h
      exact ⟨s, w, b, by simp [hu]⟩

theorem geE_mem : ∀ {E : GE} {i s : Nat} {w : Bool} {v : AV}, geE E i = some (s, w, v) → (i, s, w, v) ∈ E := by
  intro E
  induction E with
  | nil => intro i s w v h; cases h
  | cons e E ih =>
    obtain ⟨t, s', w', v'⟩ := e
    intro i s w v h
    simp only [geE] at h
    cases hb : Nat.beq t i with
    | true =>
      rw [hb] at h
      simp only [cond_true, Option.some.injEq, Prod.mk.injEq] at h
      obtain ⟨rfl, rfl, rfl⟩ := h
      obtain rfl := Nat.eq_of_beq_eq_true hb
      exact List.mem_cons_self
    | false =>
      rw [hb] at h
      exact List.mem_cons_of_mem _ (ih h)
theorem boolBeq_self (b : Bool) : boolBeq b b = true := by cases b <;> rfl
theorem chainB_ok {E : GE} (hE : EOk E st tm w μ ok) (F : Facts mine w0 st tm w μ ok) : ∀ (k s : Nat) (wv : Bool), tm.getD s undef = .bool wv → chainB E st k s wv = true := by
  intro k
  induction k with
  | zero => intro s wv _; rfl
  | succ k ih =>
    intro s wv hs
    simp only [chainB]
    split
    · rename_i s0 w0' c hg
      obtain ⟨_, _, e3⟩ := hE _ (geE_mem hg)
      rcases e3 with e3 | e3 | e3
      · have h1 : tm.getD s undef = .bool c := e3.2
        rw [hs] at h1
        cases h1
        rw [boolBeq_self, ih s0 w0' e3.1]; rfl
      · have := e3.1
        simp only at this
        rw [hs] at this
        exact absurd this (bool_ne_undef wv)
      · have := getD_out e3
        simp only at this
        rw [hs] at this
        exact absurd this (bool_ne_undef wv)
    · rfl
    · split
      · rename_i b hb
        have hslot := F.slots s
        rw [hb] at hslot
        have h1 : tm.getD s undef = .bool b := hslot
        rw [hs] at h1
        cases h1
        exact boolBeq_self _
      · rfl
theorem overOne_ok {s : Nat} {wv : Bool} (hs : tm.getD s undef = .bool wv) : ∀ {E : GE} {cur : St}, EOk E st tm w μ ok → Facts mine w0 cur tm w μ ok → (∀ i, ((cur.at i).isOwner = true → (st.at i).isOwner = true) ∧ ((cur.at i).isGho = true → (st.at i).isGho = true)) →
    Facts mine w0 (overOne s wv E cur) tm w μ ok ∧ ∀ i, (((overOne s wv E cur).at i).isOwner = true → (st.at i).isOwner = true) ∧ (((overOne s wv E cur).at i).isGho = true → (st.at i).isGho = true) := by
  intro E
  induction E with
  | nil => intro cur _ F h; exact ⟨F, h⟩
  | cons e E ih =>
    obtain ⟨t, s', w', v⟩ := e
    intro cur hE F h
    have hE' : EOk E st tm w μ ok := fun e he => hE e (by simp [he])
    obtain ⟨e1, e2, e3⟩ := hE (t, s', w', v) (by simp)
    simp only [overOne]
    cases hb : (Nat.beq s' s && boolBeq w' wv) with
    | false => exact ih hE' F h
    | true =>
      simp only [Bool.and_eq_true] at hb
      obtain rfl := Nat.eq_of_beq_eq_true hb.1
      obtain rfl : w' = wv := by cases w' <;> cases wv <;> first | rfl | cases hb.2
      simp only [cond_true]
      rcases e3 with e3 | e3 | e3
      case inr.inl => exact absurd hs e3.2
      case inr.inr =>
        -- a slot beyond the frame: it is none of the state's
        have hc : (cur.at t).isGho = false := by
          cases hc : (cur.at t).isGho with
          | false => rfl
          | true => have := (h t).2 hc; simp only at e2; rw [e2.2] at this; cases this
        have : List.set cur t v = cur := by
          refine List.set_eq_of_length_le ?_
          rcases Nat.lt_or_ge t cur.length with hl | hl
          · have := F.slot hc hl
            simp only at e3; omega
          · exact hl
        rw [this]
        exact ih hE' F h
      have hv : AVRel w μ ok v (tm.getD t undef) := e3.2
      have hold : (cur.at t).isOwner = false := by
        cases hc : (cur.at t).isOwner with
        | false => rfl
        | true => have := (h t).1 hc; simp only at e2; rw [e2.1] at this; cases this
      have hg : (cur.at t).isGho = false := by
        cases hc : (cur.at t).isGho with
        | false => rfl
        | true => have := (h t).2 hc; simp only at e2; rw [e2.2] at this; cases this
      exact ih hE' (F.setV t hg hold e1 hv) fun i => ⟨fun hi => (h i).1 (set_owner e1 hi), fun hi => (h i).2 (set_gho hv.noGho hi)⟩

theorem overE_ok {E : GE} (hE : EOk E st tm w μ ok) (F : Facts mine w0 st tm w μ ok) : ∀ (k s : Nat) (wv : Bool), tm.getD s undef = .bool wv →
    Facts mine w0 (overE E k s wv st) tm w μ ok ∧ ∀ i, (((overE E k s wv st).at i).isOwner = true → (st.at i).isOwner = true) ∧ (((overE E k s wv st).at i).isGho = true → (st.at i).isGho = true) := by
  intro k
  induction k with
  | zero => intro s wv _; exact ⟨F, fun _ => ⟨id, id⟩⟩
  | succ k ih =>
    intro s wv hs
    simp only [overE]
    have base : ∀ cur, cur = (match geOf E s with
        | some (s0, w0) => overE E k s0 w0 st
        | none => st) → Facts mine w0 cur tm w μ ok ∧ ∀ i, ((cur.at i).isOwner = true → (st.at i).isOwner = true) ∧ ((cur.at i).isGho = true → (st.at i).isGho = true) := by
      intro cur hc
      split at hc
      · rename_i s0 w0' hg
        subst hc
        obtain ⟨v, hv⟩ := geOf_mem hg
        obtain ⟨_, _, e3⟩ := hE _ hv
        rcases e3 with e3 | e3 | e3
        · exact ih s0 w0' e3.1
        · have := e3.1
          simp only at this
          rw [hs] at this
          exact absurd this (bool_ne_undef wv)
        · have := getD_out e3
          simp only at this
          rw [hs] at this
          exact absurd this (bool_ne_undef wv)
      · subst hc; exact ⟨F, fun _ => ⟨id, id⟩⟩
    obtain ⟨F1, h1⟩ := base _ rfl
    obtain ⟨F2, h2⟩ := overOne_ok hs hE F1 h1
    exact ⟨F2.setV s (bool_not_gho F2 hs) (owner_not_bool F2 hs) rfl hs, fun i => ⟨fun hi => (h2 i).1 (set_owner rfl hi), fun hi => (h2 i).2 (set_gho rfl hi)⟩⟩

/-- An operation that makes a value. -/
theorem evG_sound (hP : TabOk P tb) (hΓ : OrcOk P Γ) {E : GE} (F : Facts mine w0 st a.tmps w μ ok) (hE : EOk E st a.tmps w μ ok) {o : Oper} {v : AV} (h : evG tb Γ E st o.op = some (true, v)) {next : Act → World → Prop} {Q : Exit → Act → World → Prop}
    (hn : ∀ w1 ok1 x, Facts mine w0 st a.tmps w1 μ ok1 → NewRel mine w0 st w1 μ ok1 v x → Grow w ok w1 ok1 v x → next (a.put o.dst x) w1) : o.wp P a w next Q := by
  unfold evG at h
  split at h
  · rename_i s x y ho
    split at h
    · rename_i c p q hc hx hy
      cases h
      have e1 := rd_bool F hc
      refine wp_gives (r := do pure (if ← asBool (a.eval (.tmp s)) then a.eval x else a.eval y)) (fun w => by simp [execOp, ho]) ?_ hn
      refine Gives.pure F (x := .bool (cond c p q)) ?_ rfl rfl
      cases c with
      | true =>
        have e2 := rd_bool (overE_ok hE F (E.length + 1) s true e1).1 hx
        simp [e1, e2, asBool]
      | false =>
        have e2 := rd_bool (overE_ok hE F (E.length + 1) s false e1).1 hy
        simp [e1, e2, asBool]
    · exact ev_sound hP hΓ F h hn
  · exact ev_sound hP hΓ F (by first | exact h | (rename_i h' _; exact h)) hn

theorem Facts.grow (F : Facts mine w0 st tm w μ ok) {w1 : World} {ok1 : OK} {v : AV} {x : Value} (hg : Grow w ok w1 ok1 v x) {st' : St} {tm' : Array Value} {μ' : Locs} (F1 : Facts mine w0 st' tm' w1 μ' ok1) : Facts mine w0 st tm w1 μ ok1 :=
  F.step (fun b hb => hg.fr.block b (F.okB b hb) id) (fun i b h1 h2 => hg.fr.block b (F.ownB i b h1 h2).1 id) hg.fr.size hg.up F1.okB F1.okT F1.okF
    (fun i b h1 h2 h3 => by
      have := F.ownB i b h1 h2
      rcases hg.down _ _ h3 with h | h
      · exact this.2.2 h
      · omega)
    F1.okS (F.fr.trans hg.fr)

theorem EOk.grow {E : GE} (hE : EOk E st tm w μ ok) (F : Facts mine w0 st tm w μ ok) {w1 : World} {ok1 : OK} {v : AV} {x : Value} (hg : Grow w ok w1 ok1 v x) : EOk E st tm w1 μ ok1 := by
  intro e he
  obtain ⟨e1, e2, e3⟩ := hE e he
  refine ⟨e1, e2, e3.imp (fun h => ⟨h.1, h.2.mono (fun fr b hb => hg.fr.block b (F.okB b (F.ok_any hb)) id) hg.up fun _ _ => rfl⟩) id⟩

theorem dropE_mem {d : Nat} : ∀ {E : GE} {e : Nat × Nat × Bool × AV}, e ∈ dropE d E → e ∈ E ∧ e.1 ≠ d ∧ e.2.1 ≠ d ∧ e.2.2.2.refers d = false := by
  intro E
  induction E with
  | nil => intro e h; cases h
  | cons f E ih =>
    obtain ⟨t, s, w, v⟩ := f
    intro e h
    simp only [dropE] at h
    cases hb : (Nat.beq t d || Nat.beq s d || v.refers d) with
    | true =>
      rw [hb] at h
      obtain ⟨h1, h2⟩ := ih h
      exact ⟨by simp [h1], h2⟩
    | false =>
      rw [hb] at h
      simp only [Bool.or_eq_false_iff] at hb
      rcases List.mem_cons.1 h with rfl | h
      · exact ⟨by simp, Nat.ne_of_beq_eq_false hb.1.1, Nat.ne_of_beq_eq_false hb.1.2, hb.2⟩
      · obtain ⟨h1, h2⟩ := ih h
        exact ⟨by simp [h1], h2⟩

theorem put_owner {d i : Nat} {v : AV} (hi : i ≠ d) : ((st.put d v).at i).isOwner = (st.at i).isOwner ∧ ((st.put d v).at i).isGho = (st.at i).isGho := by
  unfold St.put
  cases (st.at d).isGho with
  | true => exact ⟨rfl, rfl⟩
  | false =>
  simp only [cond_false]
  cases hc : ((st.at d).isOwner || v.isOwner) with
  | false => show (St.at (List.set st d v) i).isOwner = _ ∧ (St.at (List.set st d v) i).isGho = _; rw [St.at_set_ne st v (Ne.symm hi)]; exact ⟨rfl, rfl⟩
  | true => show (St.at (List.set (st.kill d) d (v.kill d)) i).isOwner = _ ∧ (St.at (List.set (st.kill d) d (v.kill d)) i).isGho = _; rw [St.at_set_ne _ _ (Ne.symm hi), St.at_kill, AV.isOwner_kill, AV.isGho_kill]; exact ⟨rfl, rfl⟩

/-- A slot is written: what is told of others stays. -/
theorem EOk.put {E : GE} (hE : EOk E st tm w μ ok) {d : Nat} {v : AV} {x : Value} : EOk (dropE d E) (st.put d v) (tm.setIfInBounds d x) w μ ok := by
  intro e he
  obtain ⟨h1, h2, h3, h4⟩ := dropE_mem he
  obtain ⟨e1, e2, e3⟩ := hE e h1
  have g1 : (tm.setIfInBounds d x).getD e.1 undef = tm.getD e.1 undef := by rw [getD_set, if_neg (fun h => h2 h.1.symm)]
  have g2 : (tm.setIfInBounds d x).getD e.2.1 undef = tm.getD e.2.1 undef := by rw [getD_set, if_neg (fun h => h3 h.1.symm)]
  refine ⟨e1, by rw [(put_owner h2).1, (put_owner h2).2]; exact e2, ?_⟩
  rw [g1, g2, Array.size_setIfInBounds]; exact e3
theorem EOk.nil : EOk [] st tm w μ ok := fun e he => by cases he

theorem put_junk_owner {d : Nat} (hg : (st.at d).isGho = false) : ((st.put d (.one .junk)).at d).isOwner = false ∧ ((st.put d (.one .junk)).at d).isGho = false := by
  by_cases hl : d < st.length
  · unfold St.put
    rw [hg]
    cases hc : ((st.at d).isOwner || (AV.one SV.junk).isOwner) with
    | false => show (St.at (List.set st d (.one .junk)) d).isOwner = _ ∧ (St.at (List.set st d (.one .junk)) d).isGho = _; rw [St.at_set_self st d _ hl]; exact ⟨rfl, rfl⟩
    | true => show (St.at (List.set (st.kill d) d ((AV.one .junk).kill d)) d).isOwner = _ ∧ (St.at (List.set (st.kill d) d ((AV.one .junk).kill d)) d).isGho = _; rw [St.at_set_self _ d _ (by rw [St.length_kill]; exact hl), AV.isOwner_kill, AV.isGho_kill]; exact ⟨rfl, rfl⟩
  · rw [St.at_out _ _ (by rw [St.length_put]; omega)]; exact ⟨rfl, rfl⟩

variable {ρ : Type} [Same ρ] {out : ρ}
def GoesG (mine : Cx) (w0 : World) (df : List Deferred) (K : St → GE → Option ρ) (out : ρ) (next : Act → World → Prop) : Prop :=
  ∀ st' E' tm' w' μ' ok', Facts mine w0 st' tm' w' μ' ok' → EOk E' st' tm' w' μ' ok' → K st' E' = some out → next ⟨tm', df⟩ w'

omit [Same ρ] in
theorem skipE (F : Facts mine w0 st a.tmps w μ ok) {E : GE} (hE : EOk E st a.tmps w μ ok) {o : Oper} {K : St → GE → Option ρ} (h : skipOp st o (fun st' => K st' (dropO o.dst E)) = some out) {next : Act → World → Prop} (hn : GoesG mine w0 a.defers K out next) : next (a.put o.dst undef) w := by
  unfold skipOp at h
  split at h
  · rename_i d hd
    have hput : a.put o.dst undef = ⟨a.tmps.setIfInBounds d undef, a.defers⟩ := by rw [hd]; rfl
    rw [hput]
    rw [hd] at h
    exact hn _ _ _ _ _ _ (F.putV d (v := .tup []) ⟨[], rfl, .nil⟩ rfl) hE.put h
  · rename_i hd
    have hput : a.put o.dst undef = ⟨a.tmps, a.defers⟩ := by rw [hd]; rfl
    rw [hput]
    rw [hd] at h
    exact hn _ _ _ _ _ _ F hE h

omit [Same ρ] in
/-- One operation of a region. -/
theorem stepE_sound (hP : TabOk P tb) (hΓ : OrcOk P Γ) (F : Facts mine w0 st a.tmps w μ ok) {E : GE} (hE : EOk E st a.tmps w μ ok) {ops : Array Oper} {i : Nat} {o : Oper} (hi : ops[i]? = some o) {K : St → GE → Option ρ} (h : stepE tb Γ ops.toList st E o K = some out)
    {next : Act → World → Prop} {Q : Exit → Act → World → Prop} (hn : GoesG mine w0 a.defers K out next) : wpOp P ops Q i next a w := by
  unfold wpOp
  simp only [hi]
  unfold stepE at h
  split at h
  · rename_i hg
    have hw : Region.wanted o (yielded ops a.tmps) = true := by simp [Region.wanted, hg]
    rw [if_pos hw]
    refine .inl ?_
    split at h
    · rename_i g st' hm
      cases g with
      | false => simp only [cond_false] at h; cases h
      | true =>
        simp only [cond_true] at h
        exact mdAll_sound hP hΓ F hm fun tm' w1 μ' ok1 F1 => hn _ _ _ _ _ _ F1 EOk.nil h
    · split at h
      · rename_i g v d he hd
        cases g with
        | false => simp only [cond_false] at h; cases h
        | true =>
          simp only [cond_true] at h
          refine evG_sound hP hΓ F hE he fun w1 ok1 x F1 hx hgr => ?_
          have hput : a.put o.dst x = ⟨a.tmps.setIfInBounds d x, a.defers⟩ := by rw [hd]; rfl
          rw [hput]
          cases ho : v.isOwner with
          | true =>
            rw [ho] at h
            obtain ⟨μ', F2⟩ := F1.putNew d hx
            exact hn _ _ _ _ _ _ F2 EOk.nil h
          | false =>
            rw [ho] at h
            have hxv : AVRel w1 μ ok1 v x := by cases v <;> first | exact hx | cases ho
            exact hn _ _ _ _ _ _ (F1.putV d hxv ho) (hE.grow F hgr).put h
      · rename_i g v he hd
        cases g with
        | false => simp only [cond_false] at h; cases h
        | true =>
          simp only [cond_true] at h
          refine evG_sound hP hΓ F hE he fun w1 ok1 x F1 hx hgr => ?_
          have hput : a.put o.dst x = ⟨a.tmps, a.defers⟩ := by rw [hd]; rfl
          rw [hput]
          exact hn _ _ _ _ _ _ F1 (hE.grow F hgr) h
      · cases h
  · rename_i j want hg
    split at h
    · cases h
    · rename_i s hs
      have hsl : (ops[j]?).bind (·.dst) = some s := by
        unfold guardSlot at hs
        simp only [Array.getElem?_toList] at hs
        cases hj : ops[j]? with
        | none => rw [hj] at hs; cases hs
        | some oj => rw [hj] at hs; exact hs
      have hwant : ∀ b, a.tmps.getD s undef = .bool b → Region.wanted o (yielded ops a.tmps) = (b == want) := by
        intro b hb
        simp only [Region.wanted, hg, yielded, hsl, Option.bind_some, getD_bool hb]
        cases b <;> cases want <;> rfl
      have hund : a.tmps.getD s undef = undef → Region.wanted o (yielded ops a.tmps) = false := by
        intro hval
        simp only [Region.wanted, hg, yielded, hsl, Option.bind_some]
        rw [Array.getD_eq_getD_getElem?] at hval
        cases hs' : a.tmps[s]? with
        | none => rfl
        | some v =>
          rw [hs'] at hval
          simp at hval
          subst hval; rfl
      -- told as it is if its guard is so
      have main : ∀ (d : Nat) (g : Bool) (v : AV), o.dst = some d → evGn tb Γ E st s want d o.op = some (g, v) → (a.tmps.getD s undef = .bool want → g = true) → (a.tmps.getD s undef ≠ .bool want → Region.wanted o (yielded ops a.tmps) = false) →
          (a.tmps.getD s undef = .bool want → Region.wanted o (yielded ops a.tmps) = true) → K (st.put d (.one .junk)) ((d, s, want, v) :: dropE d E) = some out →
          if Region.wanted o (yielded ops a.tmps) = true then o.wp P a w next Q ∨ (o.asks P a w ∧ LetsOut Q) else next (a.put o.dst undef) w := by
        intro d g v hd he hgt hnw hyw hK
        unfold evGn at he
        cases hb : (isMd o.op || Nat.beq d s || (st.at d).isGho) with
        | true => rw [hb] at he; cases he
        | false =>
          rw [hb] at he
          simp only [Bool.or_eq_false_iff] at hb
          have hds : s ≠ d := fun e => Nat.ne_of_beq_eq_false hb.1.2 e.symm
          have hgd := hb.2
          simp only [cond_false] at he
          split at he
          · rename_i g' v' hv
            cases ho : v'.isOwner with
            | true => rw [ho] at he; cases he
            | false =>
              rw [ho] at he
              cases he
              by_cases hsw : a.tmps.getD s undef = .bool want
              · rw [if_pos (hyw hsw)]
                obtain rfl := hgt hsw
                obtain ⟨F1, h1⟩ := overE_ok hE F (E.length + 1) s want hsw
                have hE1 : EOk E (overE E (E.length + 1) s want st) a.tmps w μ ok := fun e he => by
                  obtain ⟨p1, p2, p3⟩ := hE e he
                  refine ⟨p1, ?_, p3⟩
                  refine ⟨?_, ?_⟩
                  · cases hc : ((overE E (E.length + 1) s want st).at e.1).isOwner with
                    | false => rfl
                    | true => have := (h1 _).1 hc; rw [p2.1] at this; cases this
                  · cases hc : ((overE E (E.length + 1) s want st).at e.1).isGho with
                    | false => rfl
                    | true => have := (h1 _).2 hc; rw [p2.2] at this; cases this
                refine .inl (evG_sound hP hΓ F1 hE1 hv fun w1 ok1 x F2 hx hgr => ?_)
                have hput : a.put o.dst x = ⟨a.tmps.setIfInBounds d x, a.defers⟩ := by rw [hd]; rfl
                rw [hput]
                have hxv : AVRel w1 μ ok1 v x := by cases v <;> first | exact hx | cases ho
                have F3 := F.grow hgr F2
                refine hn _ _ _ _ _ _ (F3.putV d (v := .one .junk) trivial rfl) (fun e he => ?_) hK
                rcases List.mem_cons.1 he with rfl | he
                · refine ⟨ho, put_junk_owner hgd, ?_⟩
                  by_cases hdl : d < a.tmps.size
                  · refine .inl ⟨?_, ?_⟩
                    · show (a.tmps.setIfInBounds d x).getD s undef = _
                      rw [getD_set, if_neg (fun h => hds h.1.symm)]; exact hsw
                    · show AVRel w1 μ ok1 v ((a.tmps.setIfInBounds d x).getD d undef)
                      rw [getD_set, if_pos ⟨rfl, hdl⟩]; exact hxv
                  · exact .inr (.inr (by simp; omega))
                · exact (hE.grow F hgr).put e he
              · rw [hnw hsw]
                simp only [Bool.false_eq_true, if_false]
                have hput : a.put o.dst undef = ⟨a.tmps.setIfInBounds d undef, a.defers⟩ := by rw [hd]; rfl
                rw [hput]
                refine hn _ _ _ _ _ _ (F.putV d (v := .one .junk) trivial rfl) (fun e he => ?_) hK
                rcases List.mem_cons.1 he with rfl | he
                · refine ⟨ho, put_junk_owner hgd, .inr (.inl ⟨?_, ?_⟩)⟩
                  · show (a.tmps.setIfInBounds d undef).getD d undef = undef
                    rw [getD_set]; split
                    · rfl
                    · rename_i hdl
                      rw [Array.getD_eq_getD_getElem?, Array.getElem?_eq_none (by simp at hdl; omega)]; rfl
                  · show (a.tmps.setIfInBounds d undef).getD s undef ≠ _
                    rw [getD_set, if_neg (fun h => hds h.1.symm)]; exact hsw
                · exact hE.put e he
          · cases he
      have branch : ∀ b, a.tmps.getD s undef = .bool b → stepB tb Γ E st s b want o K = some out →
          if Region.wanted o (yielded ops a.tmps) = true then o.wp P a w next Q ∨ (o.asks P a w ∧ LetsOut Q) else next (a.put o.dst undef) w := by
        intro b hval h
        have hso := owner_not_bool F hval
        have Fo : ∀ c, b = c → Facts mine w0 (overE E (E.length + 1) s c st) a.tmps w μ ok := fun c hc => (overE_ok hE F _ s c (by rw [hval, hc])).1
        have Ft : ∀ c, b = c → Facts mine w0 (List.set st s (.one (.bool c))) a.tmps w μ ok := fun c hc => F.setV s (bool_not_gho F hval) hso rfl (by show a.tmps.getD s undef = _; rw [hval, hc])
        have hEt : ∀ c, EOk E (List.set st s (.one (.bool c))) a.tmps w μ ok := fun c e he => by
          obtain ⟨p1, p2, p3⟩ := hE e he
          refine ⟨p1, ?_, p3⟩
          refine ⟨?_, ?_⟩
          · cases hc : (St.at (List.set st s (.one (.bool c))) e.1).isOwner with
            | false => rfl
            | true => have := set_owner rfl hc; rw [p2.1] at this; cases this
          · cases hc : (St.at (List.set st s (.one (.bool c))) e.1).isGho with
            | false => rfl
            | true => have := set_gho rfl hc; rw [p2.2] at this; cases this
        have hn' : Goes mine w0 a.defers (fun st' => K st' []) out next := fun st' tm' w' μ' ok' F' h' => hn _ _ _ _ _ _ F' EOk.nil h'
        unfold stepB at h
        cases b with
        | true =>
          simp only [cond_true] at h
          cases want with
          | true =>
            rw [if_pos (by rw [hwant true hval]; rfl)]
            exact .inl (stepOp_sound hP hΓ (Fo true rfl) h hn')
          | false =>
            rw [if_neg (by rw [hwant true hval]; simp)]
            exact skipE (Ft true rfl) (hEt true) h hn
        | false =>
          simp only [cond_false] at h
          cases want with
          | true =>
            rw [if_neg (by rw [hwant false hval]; simp)]
            exact skipE (Ft false rfl) (hEt false) h hn
          | false =>
            rw [if_pos (by rw [hwant false hval]; rfl)]
            exact .inl (stepOp_sound hP hΓ (Fo false rfl) h hn')
      have hslot := F.slots s
      split at h
      · rename_i hb
        rw [hb] at hslot
        obtain ⟨vs, hval, hvs⟩ := hslot
        cases hvs
        rw [if_neg (by rw [hund hval]; simp)]
        exact skipE F hE h hn
      · rename_i b hb
        rw [hb] at hslot
        have hval : a.tmps.getD s undef = .bool b := hslot
        split at h
        · rename_i d hd
          split at h
          · rename_i g v he
            cases hgb : (g || !boolBeq b want) with
            | false => rw [hgb] at h; cases h
            | true =>
              rw [hgb] at h
              have hbw : ∀ c, a.tmps.getD s undef = .bool c ↔ b = c := fun c => by rw [hval]; simp
              refine main d g v hd he (fun hc => ?_) (fun hc => ?_) (fun hc => ?_) h
              · obtain rfl := (hbw _).1 hc
                cases g with
                | true => rfl
                | false => cases b <;> simp [boolBeq] at hgb
              · rw [hwant b hval]
                have : b ≠ want := fun e => hc ((hbw _).2 e)
                cases b <;> cases want <;> first | rfl | exact absurd rfl this
              · rw [hwant _ hc]; simp
          · exact branch b hval h
        · exact branch b hval h
      · split at h
        · rename_i d hge hd
          obtain ⟨s0, w0', b0, hu⟩ := geB_mem hge
          split at h
          · rename_i g v he
            cases hgb : (g || !chainB E st (E.length + 1) s want) with
            | false => rw [hgb] at h; cases h
            | true =>
              rw [hgb] at h
              simp only [cond_true] at h
              refine main d g v hd he (fun hc => ?_) (fun hc => ?_) (fun hc => ?_) h
              · rw [chainB_ok hE F _ s want hc] at hgb
                cases g with
                | true => rfl
                | false => cases hgb
              · obtain ⟨_, _, e3⟩ := hE _ hu
                rcases e3 with e3 | e3 | e3
                · have hb : a.tmps.getD s undef = .bool b0 := e3.2
                  rw [hwant _ hb]
                  have : b0 ≠ want := fun e => hc (by rw [hb, e])
                  cases b0 <;> cases want <;> first | rfl | exact absurd rfl this
                · exact hund e3.1
                · exact hund (getD_out e3)
              · rw [hwant _ hc]; simp
          · cases h
        · cases h

theorem runE_sound (hP : TabOk P tb) (hΓ : OrcOk P Γ) {ops : Array Oper} {Q : Exit → Act → World → Prop} : ∀ (rest : List Oper) (idx : List Nat) (st : St) (E : GE) (a : Act) (w : World) (μ : Locs) (ok : OK) (K : St → Option ρ),
    All2 (fun i o => ops[i]? = some o) idx rest → Facts mine w0 st a.tmps w μ ok → EOk E st a.tmps w μ ok → runE tb Γ ops.toList rest st E K = some out → Goes mine w0 a.defers K out (Q .normal) → wpOps P ops Q idx a w := by
  intro rest
  induction rest with
  | nil =>
    intro idx st E a w μ ok K hidx F hE h hn
    cases hidx
    exact hn _ _ _ _ _ F h
  | cons o rest ih =>
    intro idx st E a w μ ok K hidx F hE h hn
    cases hidx with
    | @cons i _ idx _ hi ht =>
      rw [wpOps_cons]
      simp only [runE] at h
      exact stepE_sound hP hΓ F hE hi h fun st' E' tm' w' μ' ok' F' hE' h' => ih idx st' E' ⟨tm', a.defers⟩ w' μ' ok' K ht F' hE' h' hn
end

end Go.AM
