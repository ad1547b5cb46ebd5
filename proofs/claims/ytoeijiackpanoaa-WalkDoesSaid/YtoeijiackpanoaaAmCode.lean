/- An abstract machine over the model's own code: regions, branches, loops: what the abstract run comes to the machine comes to. -/
import Derived.Test.YtoeijiackpanoaaAmIO2
import Derived.Deep.LoopGhost
set_option linter.unusedVariables false
set_option linter.unusedSectionVars false
set_option linter.unusedSimpArgs false
namespace Go.AM

section
variable {P : Program} {mine : Cx} {w0 : World} {st : St} {a : Act} {w : World} {μ : Locs} {ok : OK} {tb : Tab} {Γ : Orc}

/-- An operation that writes memory. -/
theorem md_sound (hP : TabOk P tb) (F : Facts mine w0 st a.tmps w μ ok) {o : Oper} {st' : St} (h : md tb st o.dst o.op = some (true, st')) {next : Act → World → Prop} {Q : Exit → Act → World → Prop}
    (hn : ∀ tm' w1 μ' ok1, Facts mine w0 st' tm' w1 μ' ok1 → next { a with tmps := tm' } w1) : o.wp P a w next Q := by
  unfold md at h
  split at h
  · rename_i T p v ho
    split at h
    · rename_i hd
      obtain ⟨w1, e1, F1⟩ := store_sound hP F (rd_rel F p) (rd_rel F v) h
      unfold Oper.wp
      have : (execOp a.eval o).run P w = .ok .skip w1 := by simp [execOp, ho, e1]
      rw [this, Oper.upon_skip]
      have hput : a.put o.dst undef = { a with tmps := a.tmps } := by rw [hd]; rfl
      rw [hput]
      exact hn _ _ _ _ F1
    · cases h
  · rename_i T m k x ho
    split at h
    · rename_i hd
      obtain ⟨w1, e1, F1⟩ := map_sound hP F (rd_rel F m) (rd_rel F k) (rd_rel F x) h
      unfold Oper.wp
      have : (execOp a.eval o).run P w = .ok .skip w1 := by simp [execOp, ho, e1]
      rw [this, Oper.upon_skip]
      have hput : a.put o.dst undef = { a with tmps := a.tmps } := by rw [hd]; rfl
      rw [hput]
      exact hn _ _ _ _ F1
    · cases h
  · rename_i args ts ho
    split at h
    · rename_i s x T T' d ha ht hd
      cases hb : Nat.beq T T' with
      | false => simp only [hb, cond_false] at h; cases h
      | true =>
        obtain rfl := Nat.eq_of_beq_eq_true hb
        simp only [hb, cond_true] at h
        obtain ⟨x', w1, μ', e1, F1⟩ := append_sound hP F (ty := o.type) (rd_rel F s) (rd_rel F x) h
        have ha' : args = #[s, x] := by apply Array.ext'; simpa using ha
        have ht' : ts = #[T, T] := by apply Array.ext'; simpa using ht
        unfold Oper.wp
        have : (execOp a.eval o).run P w = .ok (.value x') w1 := by
          simp only [execOp, ho, resolve, ha', ht', Sem.run_bind, Sem.run_pure, Result.andThen_ok, invoke, builtin, List.map_toArray, List.map_cons, List.map_nil, e1]
        rw [this, Oper.upon_value]
        have hput : a.put o.dst x' = { a with tmps := a.tmps.setIfInBounds d x' } := by rw [hd]; rfl
        rw [hput]
        exact hn _ _ _ _ F1
    · cases h
  · rename_i args ts ho
    split at h
    · rename_i s x T T' d ha ht hd
      obtain ⟨x', w1, μ', e1, F1⟩ := copy_sound hP F (ty := o.type) (T2 := T') (rd_rel F s) (rd_rel F x) h
      have ha' : args = #[s, x] := by apply Array.ext'; simpa using ha
      have ht' : ts = #[T, T'] := by apply Array.ext'; simpa using ht
      unfold Oper.wp
      have : (execOp a.eval o).run P w = .ok (.value x') w1 := by
        simp only [execOp, ho, resolve, ha', ht', Sem.run_bind, Sem.run_pure, Result.andThen_ok, invoke, builtin, List.map_toArray, List.map_cons, List.map_nil, e1]
      rw [this, Oper.upon_value]
      have hput : a.put o.dst x' = { a with tmps := a.tmps.setIfInBounds d x' } := by rw [hd]; rfl
      rw [hput]
      exact hn _ _ _ _ F1
    · cases h
  · cases h

theorem mdAll_sound (hP : TabOk P tb) (hΓ : OrcOk P Γ) (F : Facts mine w0 st a.tmps w μ ok) {o : Oper} {st' : St} (h : mdAll tb Γ st o.dst o.op = some (true, st')) {next : Act → World → Prop} {Q : Exit → Act → World → Prop}
    (hn : ∀ tm' w1 μ' ok1, Facts mine w0 st' tm' w1 μ' ok1 → next { a with tmps := tm' } w1) : o.wp P a w next Q := by
  unfold mdAll at h
  split at h
  · rename_i x hx
    exact md_sound hP F (hx.trans h) hn
  · split at h
    · rename_i f args ts ho
      exact mdCall_sound hΓ F ho h hn
    · cases h

variable {ρ : Type} [Same ρ] {out : ρ}

/-- What is behind an operation: whatever the state is, if it leads to the answer. -/
def Goes (mine : Cx) (w0 : World) (df : List Deferred) (K : St → Option ρ) (out : ρ) (next : Act → World → Prop) : Prop :=
  ∀ st' tm' w' μ' ok', Facts mine w0 st' tm' w' μ' ok' → K st' = some out → next ⟨tm', df⟩ w'

omit [Same ρ] in
theorem stepOp_sound (hP : TabOk P tb) (hΓ : OrcOk P Γ) (F : Facts mine w0 st a.tmps w μ ok) {o : Oper} {K : St → Option ρ} (h : stepOp tb Γ st o K = some out) {next : Act → World → Prop} {Q : Exit → Act → World → Prop}
    (hn : Goes mine w0 a.defers K out next) : o.wp P a w next Q := by
  unfold stepOp at h
  split at h
  · rename_i g st' hm
    cases g with
    | false => simp only [cond_false] at h; cases h
    | true =>
      simp only [cond_true] at h
      exact mdAll_sound hP hΓ F hm fun tm' w1 μ' ok1 F1 => hn _ _ _ _ _ F1 h
  · split at h
    · rename_i g v d he hd
      cases g with
      | false => simp only [cond_false] at h; cases h
      | true =>
        simp only [cond_true] at h
        refine ev_sound hP hΓ F he fun w1 ok1 x F1 hx _ => ?_
        obtain ⟨μ', F2⟩ := F1.putNew d hx
        have hput : a.put o.dst x = ⟨a.tmps.setIfInBounds d x, a.defers⟩ := by rw [hd]; rfl
        rw [hput]
        exact hn _ _ _ _ _ F2 h
    · rename_i g v he hd
      cases g with
      | false => simp only [cond_false] at h; cases h
      | true =>
        simp only [cond_true] at h
        refine ev_sound hP hΓ F he fun w1 ok1 x F1 hx _ => ?_
        have hput : a.put o.dst x = ⟨a.tmps, a.defers⟩ := by rw [hd]; rfl
        rw [hput]
        exact hn _ _ _ _ _ F1 h
    · cases h

theorem getD_bool {tm : Array Value} {s : Nat} {b : Bool} (h : tm.getD s undef = .bool b) : tm[s]? = some (.bool b) := by
  rw [Array.getD_eq_getD_getElem?] at h
  cases hs : tm[s]? with
  | none => rw [hs] at h; simp [undef] at h
  | some v => rw [hs] at h; simp at h; rw [h]

omit [Same ρ] in
theorem skip_sound (F : Facts mine w0 st a.tmps w μ ok) {o : Oper} {K : St → Option ρ} (h : skipOp st o K = some out) {next : Act → World → Prop} (hn : Goes mine w0 a.defers K out next) : next (a.put o.dst undef) w := by
  unfold skipOp at h
  split at h
  · rename_i d hd
    have hput : a.put o.dst undef = ⟨a.tmps.setIfInBounds d undef, a.defers⟩ := by rw [hd]; rfl
    rw [hput]
    exact hn _ _ _ _ _ (F.putV d (v := .tup []) ⟨[], rfl, .nil⟩ rfl) h
  · rename_i hd
    have hput : a.put o.dst undef = ⟨a.tmps, a.defers⟩ := by rw [hd]; rfl
    rw [hput]
    exact hn _ _ _ _ _ F h

omit [Same ρ] in
/-- One operation of a region. -/
theorem stepG_sound (hP : TabOk P tb) (hΓ : OrcOk P Γ) (F : Facts mine w0 st a.tmps w μ ok) {ops : Array Oper} {i : Nat} {o : Oper} (hi : ops[i]? = some o) {K : St → Option ρ} (h : stepG tb Γ ops.toList st o K = some out)
    {next : Act → World → Prop} {Q : Exit → Act → World → Prop} (hn : Goes mine w0 a.defers K out next) : wpOp P ops Q i next a w := by
  unfold wpOp
  simp only [hi]
  unfold stepG at h
  split at h
  · rename_i hg
    have hw : Region.wanted o (yielded ops a.tmps) = true := by simp [Region.wanted, hg]
    rw [if_pos hw]
    exact .inl (stepOp_sound hP hΓ F h hn)
  · rename_i j want hg
    split at h
    · rename_i s hs
      have hsl : (ops[j]?).bind (·.dst) = some s := by
        unfold guardSlot at hs
        simp only [Array.getElem?_toList] at hs
        cases hj : ops[j]? with
        | none => rw [hj] at hs; cases hs
        | some oj => rw [hj] at hs; exact hs
      have hwant : ∀ b, a.tmps.getD s undef = .bool b → Region.wanted o (yielded ops a.tmps) = (b == want) := by
        intro b hb
        simp only [Region.wanted, hg, yielded, hsl, Option.bind_some, getD_bool hb]
        cases b <;> cases want <;> rfl
      have hslot := F.slots s
      split at h
      · rename_i b hb
        rw [hb] at hslot
        have hval : a.tmps.getD s undef = .bool b := hslot
        have Ft : ∀ c, b = c → Facts mine w0 (List.set st s (.one (.bool c))) a.tmps w μ ok := by
          intro c hc
          refine F.setV s (by rw [hb]; rfl) (by rw [hb]; rfl) rfl ?_
          show a.tmps.getD s undef = _
          rw [hval, hc]
        cases b with
        | true =>
          simp only [cond_true] at h
          cases want with
          | true =>
            rw [if_pos (by rw [hwant true hval]; rfl)]
            exact .inl (stepOp_sound hP hΓ (Ft true rfl) h hn)
          | false =>
            rw [if_neg (by rw [hwant true hval]; simp)]
            exact skip_sound (Ft true rfl) h hn
        | false =>
          simp only [cond_false] at h
          cases want with
          | true =>
            rw [if_neg (by rw [hwant false hval]; simp)]
            exact skip_sound (Ft false rfl) h hn
          | false =>
            rw [if_pos (by rw [hwant false hval]; rfl)]
            exact .inl (stepOp_sound hP hΓ (Ft false rfl) h hn)
      · rename_i hb
        rw [hb] at hslot
        obtain ⟨vs, hval, hvs⟩ := hslot
        cases hvs
        have hnw : Region.wanted o (yielded ops a.tmps) = false := by
          simp only [Region.wanted, hg, yielded, hsl, Option.bind_some]
          rw [Array.getD_eq_getD_getElem?] at hval
          cases hs' : a.tmps[s]? with
          | none => rfl
          | some v =>
            rw [hs'] at hval
            simp at hval
            subst hval; rfl
        rw [if_neg (by rw [hnw]; simp)]
        exact skip_sound F h hn
      · cases h
    · cases h

theorem runOps_sound (hP : TabOk P tb) (hΓ : OrcOk P Γ) {ops : Array Oper} {Q : Exit → Act → World → Prop} : ∀ (rest : List Oper) (idx : List Nat) (st : St) (a : Act) (w : World) (μ : Locs) (ok : OK) (K : St → Option ρ),
    All2 (fun i o => ops[i]? = some o) idx rest → Facts mine w0 st a.tmps w μ ok → runOps tb Γ ops.toList rest st K = some out → Goes mine w0 a.defers K out (Q .normal) → wpOps P ops Q idx a w := by
  intro rest
  induction rest with
  | nil =>
    intro idx st a w μ ok K hidx F h hn
    cases hidx
    exact hn _ _ _ _ _ F h
  | cons o rest ih =>
    intro idx st a w μ ok K hidx F h hn
    cases hidx with
    | @cons i _ idx _ hi ht =>
      rw [wpOps_cons]
      simp only [runOps] at h
      exact stepG_sound hP hΓ F hi h fun st' tm' w' μ' ok' F' h' => ih idx st' ⟨tm', a.defers⟩ w' μ' ok' K ht F' h' hn

theorem range_all2 (ops : Array Oper) : All2 (fun i o => ops[i]? = some o) (List.range ops.size) ops.toList := by
  have : ∀ (l : List Oper) (k : Nat), (∀ j, l[j]? = ops[k + j]?) → All2 (fun i o => ops[i]? = some o) (List.range' k l.length) l := by
    intro l
    induction l with
    | nil => intro k _; exact .nil
    | cons o l ih =>
      intro k h
      simp only [List.length_cons, List.range'_succ]
      refine .cons ?_ (ih (k + 1) fun j => ?_)
      · have := h 0; simp at this; exact this.symm
      · have := h (j + 1); simp at this; rw [this]; congr 1; omega
  have h := this ops.toList 0 (fun j => by simp)
  simpa [List.range_eq_range'] using h

end

end Go.AM
