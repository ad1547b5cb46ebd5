/- An abstract machine over the model's own code: a call, by what its function comes to; each operation that makes a value. -/
import Derived.Test.YtoeijiackpanoaaAmCall
import Derived.Calls
set_option linter.unusedVariables false
set_option linter.unusedSimpArgs false
namespace Go.AM

/-- What a call's answer may lead to: what is new, and, if it is told so, what the arguments led to. -/
def resOK (w w' : World) (okA : Nat → Prop) (fr : Bool) (b : Nat) : Prop := (w.heap.size ≤ b ∧ b < w'.heap.size) ∨ (fr = false ∧ okA b)

def ResCore (w w' : World) (ok' : OK) : AV → Value → Prop
  | .own cs, v => ∃ b c E, v = .pointer (some ⟨b, 0, none⟩) ∧ w'.heap[b]? = some (.cells c E (0, 0)) ∧ All2 (SVRel w' μ0 ok') cs c.toList ∧ w.heap.size ≤ b ∧ b < w'.heap.size ∧ ¬ ok' false b
  | .arr fr t xs, v => ∃ l, v = slv l none ∧ ArrRel w' (ok' fr) l t xs ∧ ∀ b, l.b = some b → w.heap.size ≤ b ∧ b < w'.heap.size ∧ ¬ ok' false b
  | .mapO fr kt vt es, v => ∃ b, v = .map (some b) ∧ MapRel w' (ok' fr) kt vt es b ∧ w.heap.size ≤ b ∧ b < w'.heap.size ∧ ¬ ok' false b
  | r, v => AVRel w' μ0 ok' r v
def ResRel (w : World) (okA : Nat → Prop) (w' : World) (r : AV) (v : Value) : Prop :=
  ∃ ok' : OK, (∀ fr b, ok' fr b → resOK w w' okA fr b) ∧ (∀ b, ok' true b → ok' false b) ∧ ResCore w w' ok' r v

/-- The function is called, not looked up elsewhere. -/
def Callable (P : Program) (f : FuncId) : Prop := ∀ (args : Array Value) (w : World), (callFunc f args).run P w = .ok (.enter f args) w

/-- THE CONTRACT OF A CALL: at arguments that read so it answers so, and nothing that was there has turned. -/
def Good (P : Program) (f : FuncId) (args : List AV) (r : AV) : Prop :=
  ∀ (w : World) (okA : Nat → Prop) (vs : List Value), (∀ b, okA b → b < w.heap.size) → All2 (AVRel w μ0 (argOK okA)) args vs →
    Calls P f vs.toArray w fun e w' => ∃ v, e = .returned v ∧ Fr none1 w w' ∧ ResRel w okA w' r v

def ownAt (gs : List AV) (k : Nat) : AV := gs.getD k (.one .junk)
/-- The owners that a call is given, or that it hands back. -/
structure OwnsOk (w : World) (μ : Locs) (ok : OK) (gs : List AV) : Prop where
  own : ∀ k, OwnRel w μ ok k (ownAt gs k)
  blk : ∀ k b, (ownAt gs k).isOwner = true → (μ k).b = some b → b < w.heap.size ∧ ¬ ok false b
  inj : ∀ j k b, (ownAt gs j).isOwner = true → (ownAt gs k).isOwner = true → (μ j).b = some b → (μ k).b = some b → j = k
def ioMine (gs : List AV) (μ : Locs) (b : Nat) : Prop := ∃ k, (ownAt gs k).isOwner = true ∧ (μ k).b = some b
/-- THE CONTRACT OF A CALL THAT WRITES WHAT IT IS GIVEN: the first p of the owners stay where they lie. -/
def GoodIO (P : Program) (f : FuncId) (args : List AV) (p : Nat) (gs : List AV) (r : AV) (gs' : List AV) : Prop :=
  ∀ (w : World) (okA : Nat → Prop) (vs : List Value) (μ : Locs), (∀ b, okA b → b < w.heap.size) → All2 (AVRel w μ (argOK okA)) args vs → OwnsOk w μ (argOK okA) gs →
    Calls P f vs.toArray w fun e w' => ∃ v, e = .returned v ∧ Fr (ioMine gs μ) w w' ∧ ∃ (ok' : OK) (μ' : Locs),
      (∀ fr b, ok' fr b → resOK w w' okA fr b) ∧ (∀ b, ok' true b → ok' false b) ∧ AVRel w' μ' ok' r v ∧ OwnsOk w' μ' ok' gs' ∧
      (∀ k b, (ownAt gs' k).isOwner = true → (μ' k).b = some b → w.heap.size ≤ b ∨ ioMine gs μ b) ∧ (∀ k, k < p → μ' k = μ k)

def OrcOk (P : Program) (Γ : Orc) : Prop :=
  (∀ f xs r, Γ.fn f xs = some (true, r) → Callable P f ∧ Good P f xs r) ∧ (∀ f xs p gs r gs', Γ.io f xs p gs = some (true, r, gs') → Callable P f ∧ GoodIO P f xs p gs r gs')

/-! ### What is all new leads to what is new -/
section
variable {w : World} {μ : Locs} {ok : OK}
theorem SVRel.fresh {x : SV} {v : Value} (hf : x.fresh = true) (h : SVRel w μ ok x v) : SVRel w μ (fun _ => ok true) x v := by
  cases x with
  | sl fr t nl xs =>
    obtain rfl : fr = true := hf
    exact h
  | rp fr t x off =>
    obtain rfl : fr = true := hf
    exact h
  | sm fr kt vt es =>
    obtain rfl : fr = true := hf
    exact h
  | fn f caps =>
    obtain ⟨vs, e, hh⟩ := h
    refine ⟨vs, e, hh.imp_mem fun c v hc hcv => ?_⟩
    have hcf : c.fresh = true := List.all_eq_true.1 hf c hc
    cases c with
    | ref s off => cases hcf
    | ptrD fr t x =>
      obtain rfl : fr = true := hcf
      exact hcv
    | valD fr t x =>
      obtain rfl : fr = true := hcf
      unfold CapRel at *
      have hcell : ∀ {t : Ty} {x : t.D} {us : List Value}, All2 (SVRel0 w μ ok) (enc t true x) us → All2 (SVRel0 w μ (fun _ => ok true)) (enc t true x) us := by
        intro t
        induction t with
        | int k => intro x us hh; cases hh with | cons h1 h2 => cases h2; exact .cons h1 .nil
        | bool => intro x us hh; cases hh with | cons h1 h2 => cases h2; exact .cons h1 .nil
        | str => intro x us hh; cases hh with | cons h1 h2 => cases h2; exact .cons h1 .nil
        | unit => intro x us hh; cases hh; exact .nil
        | sl t _ => intro x us hh; cases hh with | cons h1 h2 => cases h2; exact .cons h1 .nil
        | pair a b iha ihb =>
          intro x us hh
          obtain ⟨u, v, rfl, h1, h2⟩ := hh.split
          exact (iha h1).append (ihb h2)
      simp only [capVal] at *
      split at hcv
      · rename_i y hy
        have h1 : All2 (SVRel0 w μ ok) (enc t true x) [v] := by rw [hy]; exact .cons hcv .nil
        have h2 := hcell h1
        rw [hy] at h2
        cases h2 with
        | cons h3 _ => exact h3
      · obtain ⟨us, e, hh⟩ := hcv
        exact ⟨us, e, hcell hh⟩
  | _ => exact h
theorem AVRel.fresh {x : AV} {v : Value} (hf : x.fresh = true) (h : AVRel w μ ok x v) : AVRel w μ (fun _ => ok true) x v := by
  cases x with
  | one x =>
    by_cases hj : x = .junk
    · subst hj; trivial
    · rw [AVRel.eq1 hj] at h ⊢; exact h.fresh hf
  | agg cs => obtain ⟨vs, e, hh⟩ := h; exact ⟨vs, e, hh.imp_mem fun y v hy hyv => hyv.fresh (List.all_eq_true.1 hf y hy)⟩
  | tup l =>
    obtain ⟨vs, e, hh⟩ := h
    refine ⟨vs, e, hh.imp_mem fun p v hp hpv => ?_⟩
    obtain ⟨f, cs⟩ := p
    have hp' : cs.all SV.fresh = true := List.all_eq_true.1 hf _ hp
    cases f with
    | true => obtain ⟨us, e, hu⟩ := hpv; exact ⟨us, e, hu.imp_mem fun y v hy hyv => hyv.fresh (List.all_eq_true.1 hp' y hy)⟩
    | false => obtain ⟨y, e, hy⟩ := hpv; subst e; exact ⟨y, rfl, hy.fresh (List.all_eq_true.1 hp' y (by simp))⟩
  | own cs => exact h.elim
  | arr f t xs => exact h.elim
  | mapO f kt vt es => exact h.elim
  | gho o => exact h.elim
end

theorem isRef_of_refers {x : SV} {d : Nat} (h : x.refers d = true) : x.isRef = true := by
  cases x <;> first | rfl | (simp [SV.refers] at h; done) | skip
  rename_i f caps
  obtain ⟨c, hc, hd⟩ := List.any_eq_true.1 h
  refine List.any_eq_true.2 ⟨c, hc, ?_⟩
  cases c <;> first | rfl | cases hd
theorem AV.isRef_of_refers {x : AV} {d : Nat} (h : x.refers d = true) : x.isRef = true := by
  cases x with
  | one v => exact AM.isRef_of_refers h
  | agg cs => obtain ⟨c, hc, hd⟩ := List.any_eq_true.1 h; exact List.any_eq_true.2 ⟨c, hc, AM.isRef_of_refers hd⟩
  | tup l =>
    obtain ⟨p, hp, hd⟩ := List.any_eq_true.1 h
    obtain ⟨c, hc, hd⟩ := List.any_eq_true.1 hd
    exact List.any_eq_true.2 ⟨p, hp, List.any_eq_true.2 ⟨c, hc, AM.isRef_of_refers hd⟩⟩
  | own cs => obtain ⟨c, hc, hd⟩ := List.any_eq_true.1 h; exact List.any_eq_true.2 ⟨c, hc, AM.isRef_of_refers hd⟩
  | arr f t xs => cases h
  | mapO f kt vt es => cases h
  | gho o =>
    cases o with
    | own cs => obtain ⟨c, hc, hd⟩ := List.any_eq_true.1 h; exact List.any_eq_true.2 ⟨c, hc, AM.isRef_of_refers hd⟩
    | _ => cases h

section
variable {P : Program} {mine : Cx} {w0 : World} {st : St} {a : Act} {w : World} {μ : Locs} {ok : OK} {tb : Tab} {Γ : Orc}

theorem Fr.trans {m : Nat → Prop} {w1 : World} (h : Fr m w0 w) (k : Fr none1 w w1) : Fr m w0 w1 :=
  ⟨k.os.trans h.os, k.tape.trans h.tape, k.output.trans h.output, Nat.le_trans h.size k.size, fun i hi hm => (k.block i (Nat.lt_of_lt_of_le hi h.size) id).trans (h.block i hi hm)⟩

/-- What comes back of a call is taken in. -/
theorem Facts.back (F : Facts mine w0 st a.tmps w μ ok) {okA : Nat → Prop} {w1 : World} {r : AV} {v : Value} (hfr : Fr none1 w w1) (hnr : r.isRef = false)
    (hA : (∀ b, okA b → ok false b) ∨ r.fresh = true) (h : ResRel w okA w1 r v) : ∃ ok1, Facts mine w0 st a.tmps w1 μ ok1 ∧ NewRel mine w0 st w1 μ ok1 r v ∧ Grow w ok w1 ok1 r v := by
  have hμ : ∀ s, r.refers s = true → μ s = μ0 s := fun s hs => by rw [AV.isRef_of_refers hs] at hnr; cases hnr
  -- it is enough to have what leads to new blocks, or to what is stable
  have main : ∀ ok' : OK, (∀ fr b, ok' fr b → (w.heap.size ≤ b ∧ b < w1.heap.size) ∨ (fr = false ∧ ok false b)) → (∀ b, ok' true b → ok' false b) →
      ResCore w w1 ok' r v → ∃ ok1, Facts mine w0 st a.tmps w1 μ ok1 ∧ NewRel mine w0 st w1 μ ok1 r v ∧ Grow w ok w1 ok1 r v := by
    intro ok' h1 h2 h3
    have hsz := F.fr.size
    have hno : ∀ i b, (st.ow i).isOwner = true → (μ i).b = some b → ¬ (ok false b ∨ ok' false b) := by
      intro i b hi hb hh
      have := F.ownB i b hi hb
      rcases hh with hh | hh
      · exact this.2.2 hh
      · rcases h1 _ _ hh with hh | ⟨_, hh⟩
        · omega
        · exact this.2.2 hh
    have F1 : Facts mine w0 st a.tmps w1 μ (fun fr b => ok fr b ∨ ok' fr b) :=
      F.step (fun b hb => hfr.block b (F.okB b hb) id) (fun i b hi hb => hfr.block b (F.ownB i b hi hb).1 id) hfr.size (fun _ _ h => .inl h)
        (fun b hb => by
          rcases hb with hb | hb
          · exact Nat.lt_of_lt_of_le (F.okB b hb) hfr.size
          · rcases h1 _ _ hb with hh | ⟨_, hh⟩
            · exact hh.2
            · exact Nat.lt_of_lt_of_le (F.okB b hh) hfr.size)
        (fun b hb => hb.elim (fun h => .inl (F.okT b h)) (fun h => .inr (h2 b h)))
        (fun b hb => by
          rcases hb with hb | hb
          · exact F.okF b hb
          · rcases h1 _ _ hb with hh | ⟨hh, _⟩
            · exact Nat.le_trans hsz hh.1
            · cases hh)
        hno
        (fun b hb => by
          rcases hb with hb | hb
          · exact F.okS b hb
          · rcases h1 _ _ hb with hh | ⟨_, hh⟩
            · exact .inl (Nat.le_trans hsz hh.1)
            · exact F.okS b hh)
        (F.fr.trans hfr)
    refine ⟨_, F1, ?_, ⟨hfr, fun _ _ h => .inl h, fun f b hb => ?_, fun ho b hb => ?_⟩⟩
    case refine_2 =>
      rcases hb with hb | hb
      · exact .inl hb
      · rcases h1 _ _ hb with hh | ⟨rfl, hh⟩
        · exact .inr hh.1
        · exact .inl hh
    case refine_3 =>
      cases r with
      | own cs =>
        obtain ⟨b', c, E, rfl, _, _, e4, _⟩ := h3
        rcases hb with hb | ⟨n, c, hb⟩ | hb
        · simp at hb; subst hb; exact e4
        · cases hb
        · cases hb
      | mapO f kt vt es =>
        obtain ⟨b', rfl, _, e4, _⟩ := h3
        rcases hb with hb | ⟨n, c, hb⟩ | hb
        · cases hb
        · cases hb
        · simp at hb; subst hb; exact e4
      | arr f t xs =>
        obtain ⟨l, rfl, _, e3⟩ := h3
        rcases hb with hb | ⟨n, c, hb⟩ | hb
        · cases hb
        rotate_left
        · unfold slv at hb; cases hb
        · refine (e3 b ?_).1
          unfold slv at hb
          cases hl : l.b with
          | none => rw [hl] at hb; simp at hb
          | some b' => rw [hl] at hb; simp at hb; rw [hb.1]
      | _ => cases ho
    have fresh : ∀ b, w.heap.size ≤ b → b < w1.heap.size → ¬ ok' false b → FreshB mine w0 st w1 μ (fun fr b => ok fr b ∨ ok' fr b) b := by
      intro b g1 g2 g3
      refine ⟨g2, .inl (Nat.le_trans hsz g1), fun hh => ?_, fun i hi hb => ?_⟩
      · rcases hh with hh | hh
        · have := F.okB b hh; omega
        · exact g3 hh
      · have := (F.ownB i b hi hb).1; omega
    cases r with
    | own cs =>
      obtain ⟨b, c, E, e1, e2, e3, e4, e5, e6⟩ := h3
      refine ⟨b, c, E, e1, e2, e3.imp_mem fun y v hy hyv => hyv.mono (fun _ _ _ => rfl) (fun _ _ h => .inr h) fun s hs => hμ s (List.any_eq_true.2 ⟨y, hy, hs⟩), fresh b e4 e5 e6⟩
    | arr f t xs =>
      obtain ⟨l, e1, ⟨g1, g2, g3, g4⟩, e3⟩ := h3
      refine ⟨l, e1, ⟨g1, g2, g3, ?_⟩, fun b hb => fresh b (e3 b hb).1 (e3 b hb).2.1 (e3 b hb).2.2⟩
      rcases g4 with g4 | ⟨b, c, E, k1, k2, k3, k4⟩
      · exact .inl g4
      · refine .inr ⟨b, c, E, k1, k2, k3, fun j hj => ?_⟩
        obtain ⟨cs, t1, t2⟩ := k4 j hj
        exact ⟨cs, TRel.mono (fun _ _ => rfl) (fun _ h => .inr h) t1, t2⟩
    | mapO f kt vt es =>
      obtain ⟨b, e1, e2, e4, e5, e6⟩ := h3
      exact ⟨b, e1, e2.mono (fun _ _ => rfl) (fun _ h => .inr h) rfl, fresh b e4 e5 e6⟩
    | gho o => exact h3.elim
    | one x => exact AVRel.mono (x := .one x) (fun _ _ _ => rfl) (fun _ _ h => .inr h) hμ h3
    | agg cs => exact AVRel.mono (x := .agg cs) (fun _ _ _ => rfl) (fun _ _ h => .inr h) hμ h3
    | tup l => exact AVRel.mono (x := .tup l) (fun _ _ _ => rfl) (fun _ _ h => .inr h) hμ h3
  obtain ⟨ok', h1, h2, h3⟩ := h
  rcases hA with hA | hA
  · exact main ok' (fun fr b hb => (h1 fr b hb).imp id (fun h => ⟨h.1, hA b h.2⟩)) h2 h3
  · refine main (fun _ => ok' true) (fun fr b hb => ?_) (fun _ h => h) ?_
    · rcases h1 _ _ hb with h | ⟨h, _⟩
      · exact .inl h
      · cases h
    · cases r with
      | own cs =>
        obtain ⟨b, c, E, e1, e2, e3, e4, e5, e6⟩ := h3
        exact ⟨b, c, E, e1, e2, e3.imp_mem fun y v hy hyv => hyv.fresh (List.all_eq_true.1 hA y hy), e4, e5, fun h => e6 (h2 b h)⟩
      | arr f t xs =>
        obtain rfl : f = true := hA
        obtain ⟨l, e1, e2, e3⟩ := h3
        exact ⟨l, e1, e2, fun b hb => ⟨(e3 b hb).1, (e3 b hb).2.1, fun h => (e3 b hb).2.2 (h2 b h)⟩⟩
      | mapO f kt vt es =>
        obtain rfl : f = true := hA
        obtain ⟨b, e1, e2, e4, e5, e6⟩ := h3
        exact ⟨b, e1, e2, e4, e5, fun h => e6 (h2 b h)⟩
      | gho o => exact h3.elim
      | one x => exact AVRel.fresh (x := .one x) hA h3
      | agg cs => exact AVRel.fresh (x := .agg cs) hA h3
      | tup l => exact AVRel.fresh (x := .tup l) hA h3

theorem all2_rd (F : Facts mine w0 st a.tmps w μ ok) : ∀ l : List Operand, All2 (AVRel w μ ok) (l.map (rd st)) (l.map a.eval) := by
  intro l
  induction l with
  | nil => exact .nil
  | cons x l ih => exact .cons (rd_rel F x) ih

/-- A call, by what its function comes to. -/
theorem call_sound (hΓ : OrcOk P Γ) (F : Facts mine w0 st a.tmps w μ ok) {o : Oper} {f : Operand} {args : Array Operand} {ts : Array TypeId} (ho : o.op = .call { callee := .value f, args, argTypes := ts }) {v : AV}
    (h : evCall Γ st (rd st f) (args.toList.map (rd st)) = some (true, v)) {next : Act → World → Prop} {Q : Exit → Act → World → Prop}
    (hn : ∀ w1 ok1 x, Facts mine w0 st a.tmps w1 μ ok1 → NewRel mine w0 st w1 μ ok1 v x → Grow w ok w1 ok1 v x → next (a.put o.dst x) w1) : o.wp P a w next Q := by
  unfold evCall at h
  split at h
  · rename_i g caps hf
    split at h
    · rename_i xs hx
      split at h
      · rename_i g' r hr
        cases hc : (!r.isRef && (r.fresh || !((args.toList.map (rd st) ++ caps.map capVal).any AV.isRef))) with
        | false => simp only [hc, cond_false] at h; cases h
        | true =>
          simp only [hc, cond_true, Option.some.injEq, Prod.mk.injEq] at h
          obtain ⟨rfl, rfl⟩ := h
          simp only [Bool.and_eq_true, Bool.or_eq_true, Bool.not_eq_true'] at hc
          obtain ⟨hcall, hgood⟩ := hΓ.1 g xs r hr
          obtain ⟨vs, hfe, hcaps⟩ := rd_one F hf (by simp)
          have hargs : All2 (AVRel w μ ok) (args.toList.map (rd st) ++ caps.map capVal) (args.toList.map a.eval ++ vs) :=
            (all2_rd F _).append (hcaps.map_left _ fun c v h => capVal_rel h)
          -- what the arguments lead to
          obtain ⟨okA, hA1, hA2, hA3, hA4⟩ : ∃ okA : Nat → Prop, (∀ b, ok false b → okA b) ∧ (∀ b, okA b → b < w.heap.size) ∧ ((args.toList.map (rd st) ++ caps.map capVal).any AV.isRef = true → ∀ b, b < w.heap.size → okA b) ∧
              ((∀ b, okA b → ok false b) ∨ r.fresh = true) := by
            rcases hc.2 with hc2 | hc2
            · exact ⟨fun b => b < w.heap.size, fun b hb => F.okB b hb, fun _ h => h, fun _ _ h => h, .inr hc2⟩
            · exact ⟨ok false, fun _ h => h, fun b hb => F.okB b hb, (fun (hh : (args.toList.map (rd st) ++ caps.map capVal).any AV.isRef = true) => absurd hh (by rw [hc2]; simp)), .inl fun _ h => h⟩
          have hxs := expAs_rel F hA1 hA3 hargs hx
          have hcalls := hgood w okA _ hA2 hxs
          have hrun : (execOp a.eval o).run P w = .ok (.enter g (args.toList.map a.eval ++ vs).toArray) w := by
            unfold execOp
            simp only [ho, resolve, hfe, Deferred.ofValue, Sem.run_bind, Sem.run_pure, Result.andThen_ok, invoke]
            have : (#[] ++ Array.map a.eval args ++ vs.toArray) = (args.toList.map a.eval ++ vs).toArray := by apply Array.ext'; simp
            rw [this]
            exact hcall _ _
          unfold Oper.wp
          rw [hrun, Oper.upon_enter]
          refine hcalls.mono fun e w1 hh => ?_
          obtain ⟨v, rfl, hfr, hres⟩ := hh
          obtain ⟨ok1, F1, hnew, hgrow⟩ := F.back hfr hc.1 hA4 hres
          exact hn w1 ok1 v F1 hnew hgrow
      · cases h
    · cases h
  · cases h

theorem wp_gives {o : Oper} {r : Sem Value} {v : AV} {next : Act → World → Prop} {Q : Exit → Act → World → Prop} (he : ∀ w, (execOp a.eval o).run P w = (do pure (Next.value (← r)) : Sem Next).run P w)
    (h : Gives P mine w0 st a w μ ok r v) (hn : ∀ w1 ok1 x, Facts mine w0 st a.tmps w1 μ ok1 → NewRel mine w0 st w1 μ ok1 v x → Grow w ok w1 ok1 v x → next (a.put o.dst x) w1) : o.wp P a w next Q := by
  obtain ⟨x, w1, ok1, hr, F1, hv, hg⟩ := h
  unfold Oper.wp
  rw [he]
  simp only [Sem.run_bind, hr, Result.andThen_ok, Sem.run_pure, Oper.upon_value]
  exact hn w1 ok1 x F1 hv hg

theorem opt_rel (F : Facts mine w0 st a.tmps w μ ok) (x : Option Operand) : OptRel w μ ok (x.map (rd st)) (x.map a.eval) := by
  cases x with
  | none => trivial
  | some x => exact rd_rel F x

theorem parts_rel (F : Facts mine w0 st a.tmps w μ ok) (parts : Array (Nat × Operand)) : PartsRel w μ ok (parts.toList.map fun p => (p.1, rd st p.2)) (parts.map fun (i, x) => (i, a.eval x)).toList := by
  rw [Array.toList_map]
  have : ∀ l : List (Nat × Operand), PartsRel w μ ok (l.map fun p => (p.1, rd st p.2)) (l.map fun (i, x) => (i, a.eval x)) := by
    intro l
    induction l with
    | nil => exact .nil
    | cons p l ih => exact .cons ⟨rfl, rd_rel F p.2⟩ ih
  exact this _

theorem evMin {b : List TypeId} {x y v : AV} (h : evBuiltin tb st .min b [x, y] = some (true, v)) : ∃ k m k' n, x = .one (.int k m) ∧ y = .one (.int k' n) ∧ ikEq k k' = true ∧ v = .one (.int k (minI m n)) := by
  cases x <;> try (simp [evBuiltin] at h; done)
  rename_i x
  cases x <;> try (simp [evBuiltin] at h; done)
  rename_i k m
  cases y <;> try (simp [evBuiltin] at h; done)
  rename_i y
  cases y <;> try (simp [evBuiltin] at h; done)
  rename_i k' n
  simp only [evBuiltin] at h
  cases hk : ikEq k k' with
  | false => simp [hk] at h
  | true =>
    simp only [hk, cond_true, Option.some.injEq, Prod.mk.injEq, true_and] at h
    exact ⟨k, m, k', n, rfl, rfl, hk, h.symm⟩
theorem evMax {b : List TypeId} {x y v : AV} (h : evBuiltin tb st .max b [x, y] = some (true, v)) : ∃ k m k' n, x = .one (.int k m) ∧ y = .one (.int k' n) ∧ ikEq k k' = true ∧ v = .one (.int k (maxI m n)) := by
  cases x <;> try (simp [evBuiltin] at h; done)
  rename_i x
  cases x <;> try (simp [evBuiltin] at h; done)
  rename_i k m
  cases y <;> try (simp [evBuiltin] at h; done)
  rename_i y
  cases y <;> try (simp [evBuiltin] at h; done)
  rename_i k' n
  simp only [evBuiltin] at h
  cases hk : ikEq k k' with
  | false => simp [hk] at h
  | true =>
    simp only [hk, cond_true, Option.some.injEq, Prod.mk.injEq, true_and] at h
    exact ⟨k, m, k', n, rfl, rfl, hk, h.symm⟩

theorem builtin_gives (hP : TabOk P tb) (F : Facts mine w0 st a.tmps w μ ok) {b : Builtin} {ts : Array TypeId} {ty : TypeId} {xs : List AV} {vs : List Value} {v : AV} (hall : All2 (AVRel w μ ok) xs vs)
    (h : evBuiltin tb st b ts.toList xs = some (true, v)) : ∃ r : Sem Value, (∀ cs, builtin b ts ty cs vs.toArray = (do pure (Next.value (← r)) : Sem Next)) ∧ Gives P mine w0 st a w μ ok r v := by
  cases b <;> try (simp only [evBuiltin] at h; cases h; done)
  case len =>
    cases hall with
    | nil => simp only [evBuiltin] at h; cases h
    | @cons x xv _ _ hx ht =>
      cases ht with
      | cons _ _ => cases x <;> simp only [evBuiltin] at h <;> cases h
      | nil =>
        refine ⟨Builtin.len_ ts ty #[xv], fun _ => rfl, ?_⟩
        have := len_gives hP F (ty := ty) hx h
        simpa using this
  case min =>
    cases hall with
    | nil => simp only [evBuiltin] at h; cases h
    | @cons x xv _ _ hx ht =>
      cases ht with
      | nil => simp only [evBuiltin] at h; (try split at h) <;> simp_all
      | @cons y yv _ _ hy ht =>
        refine ⟨Builtin.min_ ts ty (xv :: yv :: _).toArray, fun _ => rfl, ?_⟩
        cases ht with
        | cons _ _ => simp [evBuiltin] at h
        | nil =>
          obtain ⟨k, m, k', n, rfl, rfl, hk, rfl⟩ := evMin h
          exact min_gives F hx hy hk
  case max =>
    cases hall with
    | nil => simp only [evBuiltin] at h; cases h
    | @cons x xv _ _ hx ht =>
      cases ht with
      | nil => simp only [evBuiltin] at h; (try split at h) <;> simp_all
      | @cons y yv _ _ hy ht =>
        refine ⟨Builtin.max_ ts ty (xv :: yv :: _).toArray, fun _ => rfl, ?_⟩
        cases ht with
        | cons _ _ => simp [evBuiltin] at h
        | nil =>
          obtain ⟨k, m, k', n, rfl, rfl, hk, rfl⟩ := evMax h
          exact max_gives F hx hy hk

/-- EVERY OPERATION THAT MAKES A VALUE. -/
theorem ev_sound (hP : TabOk P tb) (hΓ : OrcOk P Γ) (F : Facts mine w0 st a.tmps w μ ok) {o : Oper} {v : AV} (h : ev tb Γ st o.op = some (true, v)) {next : Act → World → Prop} {Q : Exit → Act → World → Prop}
    (hn : ∀ w1 ok1 x, Facts mine w0 st a.tmps w1 μ ok1 → NewRel mine w0 st w1 μ ok1 v x → Grow w ok w1 ok1 v x → next (a.put o.dst x) w1) : o.wp P a w next Q := by
  cases ho : o.op with
  | move x =>
    rw [ho] at h; cases h
    exact wp_gives (r := pure (a.eval x)) (fun w => by simp [execOp, ho]) (Gives.pure F (by simp) (rd_notOwner st x) (rd_rel F x)) hn
  | assign x =>
    rw [ho] at h; cases h
    exact wp_gives (r := pure (a.eval x)) (fun w => by simp [execOp, ho]) (Gives.pure F (by simp) (rd_notOwner st x) (rd_rel F x)) hn
  | pick c x y =>
    rw [ho] at h
    simp only [ev] at h
    refine wp_gives (r := do pure (if ← asBool (a.eval c) then a.eval x else a.eval y)) (fun w => by simp [execOp, ho]) ?_ hn
    split at h
    · rename_i b p q h1 h2 h3
      cases h
      have e1 := rd_bool F h1
      have e2 := rd_bool F h2
      have e3 := rd_bool F h3
      refine Gives.pure F (x := .bool (cond b p q)) ?_ rfl rfl
      cases b <;> simp [e1, e2, e3, asBool]
    · rename_i h1 _
      cases h
      have e1 := rd_bool F h1
      exact Gives.pure F (by simp [e1, asBool]) (rd_notOwner st x) (rd_rel F x)
    · rename_i h1 _
      cases h
      have e1 := rd_bool F h1
      exact Gives.pure F (by simp [e1, asBool]) (rd_notOwner st y) (rd_rel F y)
    · cases h
  | alloc T =>
    rw [ho] at h
    simp only [ev] at h
    split at h
    · rename_i ti hT
      cases h
      exact wp_gives (fun w => by simp only [execOp, ho]) (alloc_gives hP F hT) hn
    · cases h
  | box T x =>
    rw [ho] at h
    simp only [ev] at h
    split at h
    · rename_i cs hc
      cases h
      exact wp_gives (fun w => by simp only [execOp, ho]) (box_gives (T := T) F (rd_rel F x) hc) hn
    · cases h
  | build T parts =>
    rw [ho] at h
    exact wp_gives (fun w => by simp only [execOp, ho]) (build_gives hP F (parts_rel F parts) h) hn
  | buildSlice T n parts =>
    rw [ho] at h
    exact wp_gives (fun w => by simp only [execOp, ho]) (lit_gives hP F (parts_rel F parts) h) hn
  | load T p =>
    rw [ho] at h
    exact wp_gives (fun w => by simp only [execOp, ho]) (load_gives hP F (rd_rel F p) h) hn
  | nilCheck x =>
    rw [ho] at h
    simp only [ev] at h
    have hr := rd_rel F x
    refine wp_gives (r := pure (a.eval x)) (fun w => ?_) ?_ hn
    · split at h
      · rename_i s o' hx
        obtain ⟨b, _, e⟩ := rd_one F hx (by simp)
        simp [execOp, ho, e]
      · rename_i f t z o' hx
        obtain ⟨b, o'', cs, e, _⟩ := rd_one F hx (by simp)
        simp [execOp, ho, e]
      · rename_i s z i o' hx
        obtain ⟨b, _, e, _⟩ := rd_one F hx (by simp)
        simp [execOp, ho, e]
      · rename_i f c hx
        obtain ⟨vs, e, _⟩ := rd_one F hx (by simp)
        simp [execOp, ho, e]
      · cases h
    · have : rd st x = v ∧ v.isOwner = false := by
        split at h <;> first | (cases h; exact ⟨by assumption, rfl⟩) | cases h
      exact Gives.pure F (x := a.eval x) (by simp) this.2 (by rw [← this.1]; exact hr)
  | binOp op T x y ty =>
    rw [ho] at h
    obtain ⟨z, h1, h2, h3⟩ := evBin_rel hP (ox := x) (oy := y) (rd_rel F x) (rd_rel F y) h
    exact wp_gives (r := do eqGuard op T x y (a.eval x) (a.eval y); binOp op T (a.eval x) (a.eval y)) (fun w => by simp only [execOp, ho]) (Gives.pure F h1 h2 h3) hn
  | unOp op T x =>
    rw [ho] at h
    refine wp_gives (r := Op.unary op (a.eval x)) (fun w => by simp only [execOp, ho]) ?_ hn
    simp only [ev, evUn] at h
    split at h
    · rename_i b hx
      cases h
      have e := rd_bool F hx
      exact Gives.pure F (x := .bool (!b)) (by simp [e, Op.unary]) rfl rfl
    · rename_i k n hx
      cases h
      have e := (rd_int F hx).1
      exact Gives.pure F (x := .int k (k.wrap (0 - n))) (by simp [e, Op.unary, Op.intArith]) rfl ⟨rfl, wrap_has _ _⟩
    · cases h
  | convert src dst x =>
    rw [ho] at h
    refine wp_gives (r := convert src dst (a.eval x)) (fun w => by simp only [execOp, ho]) ?_ hn
    simp only [ev] at h
    split at h
    · rename_i k0 n0 k' n1 k n h1 h2 hx
      cases h
      have e := (rd_int F hx).1
      obtain ⟨i, d, zv, _, _, g3, _, _, _, _, g7, _⟩ := hP src _ h1
      obtain ⟨i', d', zv', _, _, g3', _, _, _, _, g7', _⟩ := hP dst _ h2
      rw [g7 _ _ rfl] at g3
      rw [g7' _ _ rfl] at g3'
      exact Gives.pure F (x := .int k' (k'.wrap n)) (by simp [e, convert, underlying, g3, g3', Conv.intToInt]) rfl ⟨rfl, wrap_has _ _⟩
    · cases h
  | makeFunc fn first captured =>
    rw [ho] at h
    simp only [ev] at h
    split at h
    · rename_i f cs h1 h2
      cases h
      have hcaps := capsOf_rel F.okT (all2_rd F captured.toList) h2
      have hf : first = #[] := Array.toList_eq_nil_iff.1 h1
      refine wp_gives (r := Instr.makeFunc (.func f) (first.map a.eval) (captured.map a.eval)) (fun w => by simp only [execOp, ho]) (Gives.pure F (x := .func (.func f) #[] (captured.map a.eval)) ?_ rfl ?_) hn
      · simp [Instr.makeFunc, hf]
      · have e : captured.map a.eval = (captured.toList.map a.eval).toArray := by apply Array.ext'; simp
        rw [e]
        exact ⟨captured.toList.map a.eval, rfl, hcaps⟩
    · cases h
  | makeSlice T l c =>
    rw [ho] at h
    exact wp_gives (fun w => by simp only [execOp, ho]) (make_gives hP F (rd_rel F l) (rd_rel F c) h) hn
  | makeMap T r =>
    rw [ho] at h
    simp only [ev] at h
    have main : ∀ kt vt, Tab.get tb T = some (.map kt vt) → v = .mapO true kt vt [] → (∀ v, r.map a.eval = some v → ∃ k n, v = .int k n) → o.wp P a w next Q := by
      intro kt vt hT hv hr
      subst hv
      exact wp_gives (fun w => by simp only [execOp, ho]) (makeMap_gives hP F hT hr) hn
    split at h
    · rename_i kt vt hT hr
      cases h
      refine main kt vt hT rfl fun v hv => ?_
      cases r with
      | none => cases hv
      | some x => cases hr
    · rename_i kt vt k n hT hr
      cases h
      refine main kt vt hT rfl fun v hv => ?_
      cases r with
      | none => cases hv
      | some x =>
        simp only [Option.map_some, Option.some.injEq] at hr hv
        exact ⟨k, n, by rw [← hv]; exact (rd_int F hr).1⟩
    · cases h
  | lookup T m k c =>
    rw [ho] at h
    exact wp_gives (fun w => by simp only [execOp, ho]) (lookup_gives hP F (rd_rel F m) (rd_rel F k) h) hn
  | slice T x lo hi mx =>
    rw [ho] at h
    refine wp_gives (r := Instr.sliceAt T (a.eval x) (lo.map a.eval) (hi.map a.eval) (mx.map a.eval)) (fun w => by simp only [execOp, ho]) (slice_gives hP F (rd_rel F x) (opt_rel F lo) (opt_rel F hi) ?_ h) hn
    intro hm; cases mx with
    | none => rfl
    | some m => cases hm
  | fieldAddr T x f =>
    rw [ho] at h
    exact wp_gives (fun w => by simp only [execOp, ho]) (fieldAddr_gives hP F (rd_rel F x) h) hn
  | field T x f =>
    rw [ho] at h
    exact wp_gives (fun w => by simp only [execOp, ho]) (field_gives hP F (rd_rel F x) h) hn
  | indexAddr T x i =>
    rw [ho] at h
    exact wp_gives (fun w => by simp only [execOp, ho]) (indexAddr_gives hP F (rd_rel F x) (rd_rel F i) h) hn
  | index T x i =>
    rw [ho] at h
    exact wp_gives (fun w => by simp only [execOp, ho]) (index_gives hP F (rd_rel F x) (rd_rel F i) h) hn
  | extract x j =>
    rw [ho] at h
    simp only [ev] at h
    split at h
    · rename_i l hx
      split at h
      · rename_i f cs hl
        split at h
        · rename_i v' hv
          cases h
          have hr := rd_rel F x
          rw [hx] at hr
          exact wp_gives (fun w => by simp only [execOp, ho]) (extract_gives F hr hl hv) hn
        · cases h
      · cases h
    · cases h
  | call c =>
    rw [ho] at h
    obtain ⟨callee, args, ts⟩ := c
    simp only [ev] at h
    cases callee with
    | value f => exact call_sound hΓ F ho h hn
    | invoke r n => cases h
    | builtin b =>
      simp only at h
      have hall := all2_rd F args.toList
      have hargs : args.map a.eval = (args.toList.map a.eval).toArray := by apply Array.ext'; simp
      refine Exists.elim (builtin_gives hP F (ty := o.type) hall h) fun r ⟨hr, hg⟩ => wp_gives (r := r) (fun w => ?_) hg hn
      simp only [execOp, ho, resolve, Sem.run_bind, Sem.run_pure, Result.andThen_ok, invoke]
      rw [hargs, hr]
      simp
  | _ => rw [ho] at h; cases h
end

end Go.AM
