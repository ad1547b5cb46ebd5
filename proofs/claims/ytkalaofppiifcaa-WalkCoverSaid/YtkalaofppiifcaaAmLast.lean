/- A drawn region whose last operation waits for all others: it may be walked as the others, and that one behind them. -/
import Derived.OrdersHeld
set_option linter.unusedVariables false
set_option linter.unusedSimpArgs false
namespace Go.AM
open Go

theorem wp_monoQ {P : Program} {o : Oper} {a : Act} {w : World} {K K' : Act → World → Prop} {Q Q' : Exit → Act → World → Prop} (h : ∀ a w, K a w → K' a w) (hp : ∀ c a w, Q (.panic c) a w → Q' (.panic c) a w) (hl : LetsOut Q → LetsOut Q')
    (hh : o.wp P a w K Q) : o.wp P a w K' Q' := by
  unfold Oper.wp at *
  generalize (execOp a.eval o).run P w = r at *
  cases r with
  | ok n w' =>
    cases n <;> simp only [Oper.upon] at hh ⊢ <;>
      first
        | exact h _ _ hh
        | exact Calls.mono hh (fun e w'' he => by cases e <;> first | exact h _ _ he | exact hp _ _ _ he | exact hl he)
        | exact Rows.mono hh (fun _ _ he => h _ _ he)
  | halt x w' => cases x <;> simp only [Oper.upon] at hh ⊢ <;> first | exact hp _ _ _ hh | exact hh

theorem mem_ready {md : Region.Mode} {ops : Array Oper} {listed : Array Bool} {i : Nat} : i ∈ Region.ready md ops listed ↔ i < ops.size ∧ listed.getD i true = false ∧ ∃ oi, ops[i]? = some oi ∧ ∀ e ∈ oi.after, Region.binds md e = true → listed.getD e.on false = true := by
  unfold Region.ready
  simp only [List.mem_filter, List.mem_range, Bool.and_eq_true, Bool.not_eq_true']
  refine ⟨fun ⟨h1, h2, h3⟩ => ⟨h1, h2, ?_⟩, fun ⟨h1, h2, oi, h3, h4⟩ => ⟨h1, h2, ?_⟩⟩
  · refine ⟨ops[i], Array.getElem?_eq_getElem h1, fun e he hb => ?_⟩
    rw [Array.getElem?_eq_getElem h1] at h3
    simp only [Option.map_some, Option.getD_some, Array.all_eq_true'] at h3
    have := h3 e he
    simpa [hb] using this
  · rw [h3]
    simp only [Option.map_some, Option.getD_some, Array.all_eq_true']
    intro e he
    cases hb : Region.binds md e with
    | true => simp [h4 e he hb]
    | false => rfl

def LastQ (P : Program) (o : Oper) (Q : Exit → Act → World → Prop) : Exit → Act → World → Prop
  | .normal, a, w => o.wp P a w (fun a w => Q .normal a w) Q
  | e, a, w => Q e a w

theorem wpAny_last {P : Program} {ops : Array Oper} {o : Oper} {Q : Exit → Act → World → Prop} (ho : o.guard = none) (hg : ∀ (i : Nat) (oi : Oper), ops[i]? = some oi → oi.guard = none)
    (hall : ∀ i, i < ops.size → ∃ e ∈ o.after, Region.binds .any e = true ∧ e.on = i) (hon : ∀ e ∈ o.after, e.on < ops.size) (hin : ∀ (i : Nat) (oi : Oper), ops[i]? = some oi → ∀ e ∈ oi.after, Region.binds .any e = true → e.on < i) :
    ∀ (fuel : Nat) (listed listed' : Array Bool) (a : Act) (w : World), listed.size = ops.size → listed'.size = ops.size + 1 → (∀ i, i < ops.size → ∀ d, listed'.getD i d = listed.getD i d) → listed'.getD ops.size true = false →
      wpAny P .any ops (LastQ P o Q) fuel listed a w → wpAny P .any (ops.push o) Q (fuel + 1) listed' a w := by
  intro fuel
  have hw : ∀ (oi : Oper), oi.guard = none → ∀ f, Region.wanted oi f = true := fun oi h f => by simp [Region.wanted, h]
  -- all are listed where none is ready
  have full : ∀ listed : Array Bool, listed.size = ops.size → Region.ready .any ops listed = [] → ∀ i, i < ops.size → listed.getD i false = true := by
    intro listed hs hr i
    induction i using Nat.strongRecOn with
    | _ i ih =>
      intro hi
      cases hl : listed.getD i false with
      | true => rfl
      | false =>
        exfalso
        have hl' : listed.getD i true = false := by
          rw [Array.getD_eq_getD_getElem?, Array.getElem?_eq_getElem (by omega)] at hl ⊢
          simpa using hl
        have : i ∈ Region.ready .any ops listed := mem_ready.2 ⟨hi, hl', _, Array.getElem?_eq_getElem hi, fun e he hb => ih e.on (hin i _ (Array.getElem?_eq_getElem hi) e he hb) (by have := hin i _ (Array.getElem?_eq_getElem hi) e he hb; omega)⟩
        rw [hr] at this
        cases this
  induction fuel with
  | zero => 
    intro listed listed' a w hs hs' heq hn h
    obtain ⟨hr, h⟩ := h
    have hf := full listed hs hr
    have hn' : ops.size ∈ Region.ready .any (ops.push o) listed' := mem_ready.2 ⟨by simp, hn, o, by simp, fun e he hb => by rw [heq _ (hon e he)]; exact hf _ (hon e he)⟩
    refine ⟨fun e => (by rw [e] at hn'; cases hn'), fun i hi => ?_⟩
    obtain ⟨h1, h2, oi, h3, h4⟩ := mem_ready.1 hi
    have hin' : i = ops.size := by
      rcases Nat.lt_or_ge i ops.size with hlt | hge
      · have := hf i hlt
        rw [heq _ hlt] at h2
        rw [Array.getD_eq_getD_getElem?, Array.getElem?_eq_getElem (by omega)] at h2 this
        simp at h2 this
        rw [h2] at this; cases this
      · simp at h1; omega
    subst hin'
    have hoi : oi = o := by simpa using h3.symm
    subst hoi
    unfold wpOp
    rw [h3]
    simp only [hw _ ho, if_true]
    refine .inl (wp_monoQ (fun a w hq => ?_) (fun _ _ _ h => h) id h)
    refine wpAny_done ?_ hq _
    rw [List.eq_nil_iff_forall_not_mem]
    intro j hj
    obtain ⟨j1, j2, _⟩ := mem_ready.1 hj
    rcases Nat.lt_or_ge j ops.size with hlt | hge
    · have e1 : (listed'.setIfInBounds ops.size true).getD j true = listed'.getD j true := by
        simp only [Array.getD_eq_getD_getElem?]
        rw [Array.getElem?_setIfInBounds_ne (by omega)]
      rw [e1, heq j hlt] at j2
      have := hf j hlt
      rw [Array.getD_eq_getD_getElem?, Array.getElem?_eq_getElem (by omega)] at j2 this
      simp at j2 this
      rw [j2] at this; cases this
    · have hj' : j = ops.size := by simp at j1; omega
      subst hj'
      rw [Array.getD_eq_getD_getElem?, Array.getElem?_setIfInBounds_self_of_lt (by omega)] at j2
      cases j2
  | succ fuel ih =>
    intro listed listed' a w hs hs' heq hn h
    by_cases hr : Region.ready .any ops listed = []
    · -- the last one alone is left
      have h := h.1 hr
      have hf := full listed hs hr
      have hn' : ops.size ∈ Region.ready .any (ops.push o) listed' := mem_ready.2 ⟨by simp, hn, o, by simp, fun e he hb => by rw [heq _ (hon e he)]; exact hf _ (hon e he)⟩
      refine ⟨fun e => (by rw [e] at hn'; cases hn'), fun i hi => ?_⟩
      obtain ⟨h1, h2, oi, h3, h4⟩ := mem_ready.1 hi
      have hin' : i = ops.size := by
        rcases Nat.lt_or_ge i ops.size with hlt | hge
        · have := hf i hlt
          rw [heq _ hlt] at h2
          rw [Array.getD_eq_getD_getElem?, Array.getElem?_eq_getElem (by omega)] at h2 this
          simp at h2 this
          rw [h2] at this; cases this
        · simp at h1; omega
      subst hin'
      have hoi : oi = o := by simpa using h3.symm
      subst hoi
      unfold wpOp
      rw [h3]
      simp only [hw _ ho, if_true]
      refine .inl (wp_monoQ (fun a w hq => ?_) (fun _ _ _ h => h) id h)
      refine wpAny_done ?_ hq _
      rw [List.eq_nil_iff_forall_not_mem]
      intro j hj
      obtain ⟨j1, j2, _⟩ := mem_ready.1 hj
      rcases Nat.lt_or_ge j ops.size with hlt | hge
      · have e1 : (listed'.setIfInBounds ops.size true).getD j true = listed'.getD j true := by
          simp only [Array.getD_eq_getD_getElem?]
          rw [Array.getElem?_setIfInBounds_ne (by omega)]
        rw [e1, heq j hlt] at j2
        have := hf j hlt
        rw [Array.getD_eq_getD_getElem?, Array.getElem?_eq_getElem (by omega)] at j2 this
        simp at j2 this
        rw [j2] at this; cases this
      · have hj' : j = ops.size := by simp at j1; omega
        subst hj'
        rw [Array.getD_eq_getD_getElem?, Array.getElem?_setIfInBounds_self_of_lt (by omega)] at j2
        cases j2
    · have same : ∀ i, i < ops.size → (i ∈ Region.ready .any (ops.push o) listed' ↔ i ∈ Region.ready .any ops listed) := by
        intro i hi
        have hpi : (ops.push o)[i]? = ops[i]? := by rw [Array.getElem?_push_lt hi, Array.getElem?_eq_getElem hi]
        rw [mem_ready, mem_ready, heq i hi, hpi]
        refine ⟨fun ⟨h1, h2, oi, h3, h4⟩ => ⟨hi, h2, oi, h3, fun e he hb => ?_⟩, fun ⟨h1, h2, oi, h3, h4⟩ => ⟨by simp; omega, h2, oi, h3, fun e he hb => ?_⟩⟩
        · have hlt := hin i oi h3 e he hb
          rw [← heq _ (by omega)]; exact h4 e he hb
        · have hlt := hin i oi h3 e he hb
          rw [heq _ (by omega)]; exact h4 e he hb
      obtain ⟨j0, hj0⟩ := List.exists_mem_of_ne_nil _ hr
      refine ⟨fun e => ?_, fun i hi => ?_⟩
      · have := (same j0 (mem_ready.1 hj0).1).2 hj0
        rw [e] at this; cases this
      · obtain ⟨i1, i2, oi, i3, i4⟩ := mem_ready.1 hi
        have hlt : i < ops.size := by
          rcases Nat.lt_or_ge i ops.size with h | h
          · exact h
          · exfalso
            have : i = ops.size := by simp at i1; omega
            subst this
            have hoi : oi = o := by simpa using i3.symm
            subst hoi
            obtain ⟨q1, q2, q3⟩ := mem_ready.1 hj0
            obtain ⟨e, he, hb, hon'⟩ := hall j0 q1
            have := i4 e he hb
            rw [hon', heq _ q1] at this
            rw [Array.getD_eq_getD_getElem?, Array.getElem?_eq_getElem (by omega)] at q2 this
            simp at q2 this
            rw [q2] at this; cases this
        have hh := h.2 i ((same i hlt).1 hi)
        have hpi : (ops.push o)[i]? = ops[i]? := by rw [Array.getElem?_push_lt hlt, Array.getElem?_eq_getElem hlt]
        unfold wpOp at hh ⊢
        rw [hpi, Array.getElem?_eq_getElem hlt] 
        rw [Array.getElem?_eq_getElem hlt] at hh
        have hgi := hg i _ (Array.getElem?_eq_getElem hlt)
        simp only [hw _ hgi, if_true] at hh ⊢
        have hK : ∀ a w, wpAny P .any ops (LastQ P o Q) fuel (listed.setIfInBounds i true) a w → wpAny P .any (ops.push o) Q (fuel + 1) (listed'.setIfInBounds i true) a w := by
          intro a w hq
          refine ih _ _ a w (by simpa using hs) (by simpa using hs') (fun j hj d => ?_) ?_ hq
          · simp only [Array.getD_eq_getD_getElem?]
            by_cases hji : i = j
            · subst hji
              rw [Array.getElem?_setIfInBounds_self_of_lt (by omega), Array.getElem?_setIfInBounds_self_of_lt (by omega)]
            · rw [Array.getElem?_setIfInBounds_ne hji, Array.getElem?_setIfInBounds_ne hji]
              simpa only [Array.getD_eq_getD_getElem?] using heq j hj d
          · simp only [Array.getD_eq_getD_getElem?] at hn ⊢
            rw [Array.getElem?_setIfInBounds_ne (by omega)]; exact hn
        have hL : LetsOut (LastQ P o Q) → LetsOut Q := fun ⟨a, w, h⟩ => ⟨a, w, h⟩
        exact hh.imp (wp_monoQ hK (fun _ _ _ h => h) hL) (fun ⟨x, y⟩ => ⟨x, hL y⟩)

theorem wp_region_last {P : Program} {id : Nat} {ops : Array Oper} {o : Oper} {Q : Exit → Act → World → Prop} {a : Act} {w : World} (hm : P.follows .mixedOrders = true) (ho : o.guard = none) (hg : ∀ (i : Nat) (oi : Oper), ops[i]? = some oi → oi.guard = none)
    (hall : ∀ i, i < ops.size → ∃ e ∈ o.after, Region.binds .any e = true ∧ e.on = i) (hon : ∀ e ∈ o.after, e.on < ops.size) (hin : ∀ (i : Nat) (oi : Oper), ops[i]? = some oi → ∀ e ∈ oi.after, Region.binds .any e = true → e.on < i)
    (h : wpAny P .any ops (LastQ P o Q) ops.size (Array.replicate ops.size false) a { w with drawn := w.drawn + 1 }) : (Code.region id (ops.push o) true).wp P Q a w := by
  refine wp_region_any hm ?_
  rw [Array.size_push]
  refine wpAny_last ho hg hall hon hin ops.size _ _ a _ (by simp) (by simp) (fun i hi d => ?_) (by simp) h
  simp [Array.getD_eq_getD_getElem?, Array.getElem?_replicate, hi, show i < ops.size + 1 by omega]

def chkIn : Nat → List Oper → Bool
  | _, [] => true
  | i, o :: r => (o.guard.isNone && o.after.all fun e => !Region.binds .any e || decide (e.on < i)) && chkIn (i + 1) r
def chkAll (o : Oper) : Nat → Bool
  | 0 => true
  | n + 1 => (o.after.any fun e => Region.binds .any e && decide (e.on = n)) && chkAll o n
def chkLast (o : Oper) (ops : Array Oper) (n : Nat) : Bool := o.guard.isNone && chkIn 0 ops.toList && chkAll o n && o.after.all fun e => decide (e.on < n)
theorem chkIn_spec : ∀ (l : List Oper) (k : Nat), chkIn k l = true → ∀ i oi, l[i]? = some oi → oi.guard = none ∧ ∀ e ∈ oi.after, Region.binds .any e = true → e.on < k + i := by
  intro l
  induction l with
  | nil => intro k _ i oi h; simp at h
  | cons o r ih =>
    intro k h i oi hi
    simp only [chkIn, Bool.and_eq_true] at h
    obtain ⟨⟨h1, h2⟩, h3⟩ := h
    cases i with
    | zero =>
      simp at hi
      subst hi
      refine ⟨by simpa using h1, fun e he hb => ?_⟩
      have := Array.all_eq_true'.1 h2 e he
      simpa [hb] using this
    | succ i =>
      obtain ⟨q1, q2⟩ := ih (k + 1) h3 i oi (by simpa using hi)
      exact ⟨q1, fun e he hb => by have := q2 e he hb; omega⟩
theorem chkAll_spec {o : Oper} : ∀ n, chkAll o n = true → ∀ i, i < n → ∃ e ∈ o.after, Region.binds .any e = true ∧ e.on = i := by
  intro n
  induction n with
  | zero => intro _ i hi; omega
  | succ n ih =>
    intro h i hi
    simp only [chkAll, Bool.and_eq_true] at h
    by_cases hin : i = n
    · subst hin
      obtain ⟨e, he, hx⟩ := Array.any_eq_true'.1 h.1
      simp only [Bool.and_eq_true, decide_eq_true_eq] at hx
      exact ⟨e, he, hx⟩
    · exact ih h.2 i (by omega)
theorem wp_region_lastH {P : Program} {id n : Nat} {ops : Array Oper} {o : Oper} {Q : Exit → Act → World → Prop} {S : World → Prop} {a : Act} {w : World} (hm : P.follows .mixedOrders = true) (hn : ops.size = n + 1) (ho : ops[n]? = some o) (hc : chkLast o ops.pop n = true)
    (h : wpAnyH P .any ops.pop (LastQ P o Q) S n (Array.replicate n false) a { w with drawn := w.drawn + 1 }) : (Code.region id ops true).wp P Q a w := by
  unfold chkLast at hc
  simp only [Bool.and_eq_true, Option.isNone_iff_eq_none] at hc
  obtain ⟨⟨⟨h1, h2⟩, h3⟩, h4⟩ := hc
  have hs : ops.pop.size = n := by simp [hn]
  have he : ops = ops.pop.push o := by
    apply Array.ext_getElem?
    intro i
    by_cases hi : i = n
    · subst hi; rw [ho, Array.getElem?_push, if_pos hs.symm]
    · rw [Array.getElem?_push, if_neg (by omega), Array.getElem?_pop]
      by_cases hl : i < ops.size - 1
      · rw [if_pos hl]
      · rw [if_neg hl, Array.getElem?_eq_none (by omega)]
  rw [he]
  have sp := chkIn_spec _ _ h2
  refine wp_region_last hm h1 (fun i oi hi => (sp i oi (by rw [Array.getElem?_toList]; exact hi)).1) (by rw [hs]; exact chkAll_spec n h3) (fun e hx => ?_) (fun i oi hi e hx hb => by have := (sp i oi (by rw [Array.getElem?_toList]; exact hi)).2 e hx hb; omega) ?_
  · have := Array.all_eq_true'.1 h4 e hx
    rw [hs]; simpa using this
  · rw [hs]; exact wpAny_of_held _ _ _ _ h
end Go.AM
