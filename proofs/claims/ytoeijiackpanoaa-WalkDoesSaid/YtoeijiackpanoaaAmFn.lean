/- An abstract machine over the model's own code: a whole function, and its contract. -/
import Derived.Test.YtoeijiackpanoaaAmLoop
set_option linter.unusedVariables false
set_option linter.unusedSectionVars false
set_option linter.unusedSimpArgs false
namespace Go.AM

/-! ### Results -/
def resCap (st : St) : Cap → Option Cap
  | .ref s off =>
    match st.ow s, off with
    | .own cs, 0 =>
      match tyOf cs with
      | some (f, ⟨t, x⟩) => some (.ptrD f t x)
      | none => none
    | _, _ => none
  | c => some c
def resCaps (st : St) : List Cap → Option (List Cap)
  | [] => some []
  | c :: r =>
    match resCap st c, resCaps st r with
    | some x, some y => some (x :: y)
    | _, _ => none
def resS (st : St) : SV → Option SV
  | .ptr s off =>
    match st.ow s with
    | .own cs =>
      match tyOf cs with
      | some (f, ⟨t, x⟩) => some (.rp f t x off)
      | none => none
    | _ => none
  | .hot s n =>
    match st.ow s with
    | .arr f t xs => some (.sl f t none (match n with | none => xs | some n => xs.take n))
    | _ => none
  | .mref s =>
    match st.ow s with
    | .mapO fr kt vt es => some (.sm fr kt vt es)
    | _ => none
  | .hptr _ _ _ _ => none
  | .aptr _ _ _ _ => none
  | .cut _ _ _ _ => none
  | .fn f caps =>
    match resCaps st caps with
    | some cs => some (.fn f cs)
    | none => none
  | .junk => none
  | v => some v
def resL (st : St) : List SV → Option (List SV)
  | [] => some []
  | v :: r =>
    match resS st v, resL st r with
    | some x, some y => some (x :: y)
    | _, _ => none

/-- What a result variable holds. -/
def resVar (tb : Tab) (st : St) : ResultVar → Option AV
  | .tmp t => some (rdSlot st t)
  | .cell t T =>
    match evLoad tb st T (rdSlot st t) with
    | some (true, v) => some v
    | _ => none
def resComp (st : St) : AV → Option (Bool × List SV)
  | .one .junk => none
  | .one v =>
    match resS st v with
    | some x => some (false, [x])
    | none => none
  | .agg cs =>
    match resL st cs with
    | some x => some (true, x)
    | none => none
  | _ => none
def resOne (st : St) : AV → Option AV
  | .one (.hot s none) =>
    match st.ow s with
    | .arr f t xs => some (.arr f t xs)
    | _ => none
  | .one (.mref s) =>
    match st.ow s with
    | .mapO fr kt vt es => some (.mapO fr kt vt es)
    | _ => none
  | v =>
    match resComp st v with
    | some (true, cs) => some (.agg cs)
    | some (false, [x]) => some (.one x)
    | _ => none
def resComps (tb : Tab) (st : St) : List ResultVar → Option (List (Bool × List SV))
  | [] => some []
  | r :: l =>
    match resVar tb st r with
    | some v =>
      match resComp st v, resComps tb st l with
      | some x, some y => some (x :: y)
      | _, _ => none
    | none => none
def resAV (tb : Tab) (st : St) : List ResultVar → Option AV
  | [r] =>
    match resVar tb st r with
    | some v => resOne st v
    | none => none
  | l =>
    match resComps tb st l with
    | some x => some (.tup x)
    | none => none

/-- How a function's run ends. -/
def Kret (tb : Tab) (rs : List ResultVar) : AE → St → Option AV
  | .normal, st => resAV tb st rs
  | .ret, st => resAV tb st rs
  | .exit _, _ => none
def st0 (args : List AV) (n : Nat) : St := args ++ List.replicate (n - args.length) (.one .junk)

section
variable {P : Program} {mine : Cx} {w0 : World} {st : St} {a : Act} {w : World} {μ : Locs} {ok : OK} {tb : Tab} {Γ : Orc}

def okR (w0 w : World) (ok : OK) : OK := fun fr b => ok fr b ∨ (w0.heap.size ≤ b ∧ b < w.heap.size)

theorem resCaps_rel (F : Facts mine w0 st a.tmps w μ ok) (hm : ∀ b, ¬ mine.mine b) : ∀ {caps cs : List Cap} {vs : List Value}, All2 (CapRel w μ ok) caps vs → resCaps st caps = some cs → All2 (CapRel w μ0 (okR w0 w ok)) cs vs := by
  have up : ∀ f b, ok f b → okR w0 w ok f b := fun f b h => .inl h
  intro caps
  induction caps with
  | nil => intro cs vs h he; simp only [resCaps, Option.some.injEq] at he; subst he; cases h; exact .nil
  | cons c caps ih =>
    intro cs vs h he
    cases h with
    | @cons _ v _ vs hv hvs =>
      simp only [resCaps] at he
      split at he
      · rename_i x y h1 h2
        cases he
        refine .cons ?_ (ih hvs h2)
        cases c with
        | ref s off =>
          simp only [resCap] at h1
          split at h1
          · rename_i ocs hs
            split at h1
            · rename_i f t z ht
              cases h1
              obtain ⟨b, c, E, k1, k2, k3⟩ := ownCells F hs
              obtain ⟨b', k1', rfl⟩ := hv
              rw [k1] at k1'; cases k1'
              have hB := F.ownB s b (by rw [hs]; rfl) k1
              refine ⟨b, 0, c.toList, rfl, .inr ⟨hB.2.1.resolve_right (hm b), hB.1⟩, TRel.mono (fun _ _ => rfl) (up f) (tyOf_rel F.okT k3 ht), fun q hq => ?_⟩
              rw [cell_block k2, Nat.zero_add]
              simp only [Array.length_toList] at hq
              simp [hq]
            · cases h1
          · cases h1
        | ptrD f t z =>
          cases h1
          obtain ⟨b, o, us, e, k1, k2, k3⟩ := hv
          exact ⟨b, o, us, e, up _ _ k1, TRel.mono (fun _ _ => rfl) (up f) k2, k3⟩
        | valD f t z =>
          cases h1
          exact CapRel.mono (fun _ _ _ => rfl) (fun fr b h => up fr b h) (fun s hs => by cases hs) hv
      · cases he

theorem resS_rel (F : Facts mine w0 st a.tmps w μ ok) (hm : ∀ b, ¬ mine.mine b) {x y : SV} {v : Value} (h : SVRel w μ ok x v) (he : resS st x = some y) : SVRel w μ0 (okR w0 w ok) y v ∧ y ≠ .junk := by
  have up : ∀ f b, ok f b → okR w0 w ok f b := fun f b h => .inl h
  cases x with
  | junk => cases he
  | bool b => cases he; exact ⟨h, by simp⟩
  | int k n => cases he; exact ⟨h, by simp⟩
  | str s => cases he; exact ⟨h, by simp⟩
  | nilp => cases he; exact ⟨h, by simp⟩
  | nils => cases he; exact ⟨h, by simp⟩
  | nilf => cases he; exact ⟨h, by simp⟩
  | nilm => cases he; exact ⟨h, by simp⟩
  | sm fr kt vt es =>
    cases he
    refine ⟨?_, by simp⟩
    rcases (h : SVRel0 w μ ok (.sm fr kt vt es) v) with h | ⟨b, e, hb, h⟩
    · exact .inl h
    · exact .inr ⟨b, e, up fr b hb, h.mono (fun _ _ => rfl) (up fr) rfl⟩
  | mref s =>
    simp only [resS] at he
    split at he
    · rename_i fr kt vt es hs
      cases he
      obtain ⟨b, k1, k2⟩ := mapO_of F hs
      obtain ⟨b', k1', rfl⟩ := (h : SVRel0 w μ ok (.mref s) v)
      rw [k1] at k1'; cases k1'
      have hB := F.ownB s b (by rw [hs]; rfl) k1
      exact ⟨.inr ⟨b, rfl, .inr ⟨hB.2.1.resolve_right (hm b), hB.1⟩, k2.mono (fun _ _ => rfl) (up fr) rfl⟩, by simp⟩
    · cases he
  | sl fr t nl xs => cases he; exact ⟨⟨TRel.mono (fun _ _ => rfl) (up fr) h.1, h.2⟩, by simp⟩
  | rp fr t z off =>
    cases he
    obtain ⟨b, o, cs, e, h1, h2, h3⟩ := h
    exact ⟨⟨b, o, cs, e, up fr b h1, TRel.mono (fun _ _ => rfl) (up fr) h2, h3⟩, by simp⟩
  | ptr s off =>
    simp only [resS] at he
    split at he
    · rename_i cs hs
      split at he
      · rename_i f t z ht
        cases he
        obtain ⟨b, c, E, k1, k2, k3⟩ := ownCells F hs
        obtain ⟨b', k1', rfl⟩ := h
        rw [k1] at k1'; cases k1'
        have hB := F.ownB s b (by rw [hs]; rfl) k1
        refine ⟨⟨b, 0, c.toList, by simp, .inr ⟨hB.2.1.resolve_right (hm b), hB.1⟩, TRel.mono (fun _ _ => rfl) (up f) (tyOf_rel F.okT k3 ht), fun q hq => ?_⟩, by simp⟩
        rw [cell_block k2, Nat.zero_add]
        simp only [Array.length_toList] at hq
        simp [hq]
      · cases he
    · cases he
  | aptr s base len idx => cases he
  | hptr s sz i off => cases he
  | cut s sz lo hi => cases he
  | hot s n =>
    simp only [resS] at he
    split at he
    · rename_i f t xs hs
      cases he
      have hr := arr_of F hs
      obtain ⟨rfl, hml, hb⟩ := h
      have hbl : ∀ b, (μ s).b = some b → okR w0 w ok f b := fun b hb' => by
        have hB := F.ownB s b (by rw [hs]; rfl) hb'
        exact .inr ⟨hB.2.1.resolve_right (hm b), hB.1⟩
      refine ⟨⟨?_, trivial⟩, by simp⟩
      cases n with
      | none =>
        have := slv_rel hr (up f) hbl xs.length (Nat.le_refl _)
        rw [List.take_length] at this
        unfold slv
        rw [Option.getD_none, hr.1]; exact this
      | some m =>
        have hml := hml m rfl
        exact slv_rel hr (up f) hbl m (by rw [← hr.1]; exact hml)
    · cases he
  | fn f caps =>
    simp only [resS] at he
    split at he
    · rename_i cs hc
      cases he
      obtain ⟨vs, e, hh⟩ := h
      exact ⟨⟨vs, e, resCaps_rel F hm hh hc⟩, by simp⟩
    · cases he

theorem resL_rel (F : Facts mine w0 st a.tmps w μ ok) (hm : ∀ b, ¬ mine.mine b) : ∀ {xs ys : List SV} {vs : List Value}, All2 (SVRel w μ ok) xs vs → resL st xs = some ys → All2 (SVRel w μ0 (okR w0 w ok)) ys vs := by
  intro xs
  induction xs with
  | nil => intro ys vs h he; simp only [resL, Option.some.injEq] at he; subst he; cases h; exact .nil
  | cons x xs ih =>
    intro ys vs h he
    cases h with
    | cons hx hxs =>
      simp only [resL] at he
      split at he
      · rename_i y ys' h1 h2
        cases he
        exact .cons (resS_rel F hm hx h1).1 (ih hxs h2)
      · cases he

def runVar (tm : Array Value) : ResultVar → Sem Value
  | .tmp t => pure (tm.getD t undef)
  | .cell p T => do loadVar T (← asAddr (tm.getD p undef))
theorem results_eq (fn : Func) (tm : Array Value) : results fn tm = (do
    let vs ← fn.results.mapM (runVar tm)
    pure (if h : vs.size = 1 then vs[0] else .tuple vs)) := by
  unfold results
  congr 1

theorem resVar_rel (hP : TabOk P tb) (F : Facts mine w0 st a.tmps w μ ok) {r : ResultVar} {v : AV} (h : resVar tb st r = some v) :
    ∃ x, (runVar a.tmps r).run P w = .ok x w ∧ AVRel w μ ok v x := by
  cases r with
  | tmp t => cases h; exact ⟨_, rfl, rdSlot_rel F t⟩
  | cell p T =>
    simp only [resVar] at h
    split at h
    · rename_i v' he
      cases h
      have hp := rdSlot_rel F p
      -- what the pointer is
      unfold evLoad at he
      split at he
      · rename_i ti q hT hq
        split at he
        · rename_i cs hc
          cases hn : Nat.beq cs.length ti.size with
          | false => simp only [hn, cond_false] at he; cases he
          | true =>
            have hn' := Nat.eq_of_beq_eq_true hn
            simp only [hn, cond_true] at he
            split at he
            · rename_i v'' hv
              simp only [Option.some.injEq, Prod.mk.injEq, true_and] at he
              subst he
              have hj : q ≠ .junk := by intro e; subst e; simp [ldCells] at hc
              rw [hq] at hp
              obtain ⟨b, o, vs, hpv, g1, g2, g3⟩ := ldCells_rel F (one_of hj hp) hc hn'
              obtain ⟨ho, hr⟩ := asVal_rel g3 hv
              have hrun := run_loadAt hP hT g1 g2 (by
                intro hf
                rcases hr with ⟨e, _⟩ | ⟨_, x, e, _⟩
                · rw [hf] at e; cases e
                · exact ⟨x, e⟩)
              have hrun' : (do loadVar T (← asAddr (a.tmps.getD p undef)) : Sem Value).run P w = .ok (if ti.isAgg = true then .agg vs.toArray else vs.headD undef) w := by
                rw [hpv]
                simp only [asAddr, Sem.run_bind, Sem.run_pure, Result.andThen_ok]
                simpa [Instr.loadAt, Instr.sureAddr] using hrun
              rcases hr with ⟨e, hr⟩ | ⟨e, x, rfl, hr⟩
              · rw [e] at hrun'; exact ⟨_, hrun', hr⟩
              · rw [e] at hrun'; exact ⟨_, hrun', hr⟩
            · cases he
        · cases he
      · cases he
    · cases h

theorem resComp_rel (F : Facts mine w0 st a.tmps w μ ok) (hm : ∀ b, ¬ mine.mine b) {v : AV} {x : Value} {p : Bool × List SV} (hv : AVRel w μ ok v x) (h : resComp st v = some p) : compRel w μ0 (okR w0 w ok) p x := by
  unfold resComp at h
  split at h
  · cases h
  · rename_i y hy
    split at h
    · rename_i z hz
      cases h
      have hj : y ≠ .junk := by intro e; subst e; simp [resS] at hz
      exact ⟨z, rfl, (resS_rel F hm (one_of hj hv) hz).1⟩
    · cases h
  · rename_i cs
    split at h
    · rename_i z hz
      cases h
      obtain ⟨vs, e, hh⟩ := hv
      exact ⟨vs, e, resL_rel F hm hh hz⟩
    · cases h
  · cases h

theorem okR_ok (F : Facts mine w0 st a.tmps w μ ok) : (∀ fr b, okR w0 w ok fr b → resOK w0 w mine.base fr b) ∧ (∀ b, okR w0 w ok true b → okR w0 w ok false b) := by
  refine ⟨fun fr b h => ?_, fun b h => h.imp (F.okT b) id⟩
  rcases h with h | h
  · cases fr with
    | true => exact .inl ⟨F.okF b h, F.okB b (F.okT b h)⟩
    | false => exact (F.okS b h).imp (fun h' => ⟨h', F.okB b h⟩) (fun h' => ⟨rfl, h'⟩)
  · exact .inl h

/-- What the function hands back. -/
theorem resAV_rel (hP : TabOk P tb) (F : Facts mine w0 st a.tmps w μ ok) (hm : ∀ b, ¬ mine.mine b) {fn : Func} {r : AV} (h : resAV tb st fn.results.toList = some r) :
    ∃ v, (results fn a.tmps).run P w = .ok v w ∧ ResRel w0 mine.base w r v := by
  -- the values, one behind the other
  have all : ∀ (l : List ResultVar) (ps : List (Bool × List SV)), resComps tb st l = some ps → ∃ vs : List Value,
      (l.mapM (runVar a.tmps)).run P w = .ok vs w ∧ All2 (compRel w μ0 (okR w0 w ok)) ps vs := by
    intro l
    induction l with
    | nil => intro ps he; simp only [resComps, Option.some.injEq] at he; subst he; exact ⟨[], by simp, .nil⟩
    | cons r l ih =>
      intro ps he
      simp only [resComps] at he
      split at he
      · rename_i v hv
        split at he
        · rename_i x y h1 h2
          cases he
          obtain ⟨z, e1, e2⟩ := resVar_rel hP F hv
          obtain ⟨vs, e3, e4⟩ := ih y h2
          refine ⟨z :: vs, ?_, .cons (resComp_rel F hm e2 h1) e4⟩
          simp only [List.mapM_cons, Sem.run_bind]
          rw [e1]
          simp only [Result.andThen_ok, e3, Sem.run_pure]
        · cases he
      · cases he
  have res : ∀ (vs : List Value), (fn.results.toList.mapM (runVar a.tmps)).run P w = .ok vs w →
      (results fn a.tmps).run P w = .ok (if h : vs.length = 1 then vs[0]'(by omega) else .tuple vs.toArray) w := by
    intro vs hvs
    rw [results_eq]
    have e : (fn.results.mapM (runVar a.tmps)).run P w = .ok vs.toArray w := by
      conv => lhs; rw [show fn.results = fn.results.toList.toArray by simp]
      rw [List.mapM_toArray]
      simp only [Sem.run_map, hvs, Result.andThen_ok]
    simp only [Sem.run_bind, e, Result.andThen_ok, Sem.run_pure]
    congr 1
  have tupCase : ∀ ps, fn.results.toList.length ≠ 1 → resComps tb st fn.results.toList = some ps → r = .tup ps → ∃ v, (results fn a.tmps).run P w = .ok v w ∧ ResRel w0 mine.base w r v := by
    intro ps hl he hr
    subst hr
    obtain ⟨vs, e1, e2⟩ := all _ _ he
    have hlen : vs.length ≠ 1 := by
      have h1 := e2.length
      have : ∀ (l : List ResultVar) (ps : List (Bool × List SV)), resComps tb st l = some ps → l.length = ps.length := by
        intro l
        induction l with
        | nil => intro ps he; simp only [resComps, Option.some.injEq] at he; subst he; rfl
        | cons r l ih =>
          intro ps he
          simp only [resComps] at he
          split at he
          · split at he
            · rename_i h2; cases he; simp [ih _ h2]
            · cases he
          · cases he
      rw [← h1, ← this _ _ he]; exact hl
    have := res vs e1
    rw [dif_neg hlen] at this
    exact ⟨_, this, okR w0 w ok, (okR_ok F).1, (okR_ok F).2, vs, rfl, e2⟩
  unfold resAV at h
  split at h
  · rename_i rv hl
    split at h
    · rename_i v hv
      obtain ⟨x, e1, e2⟩ := resVar_rel hP F hv
      have hrun : (results fn a.tmps).run P w = .ok x w := by
        have := res [x] (by
          rw [hl]
          simp only [List.mapM_cons, List.mapM_nil, Sem.run_bind]
          rw [e1]
          simp only [Result.andThen_ok, Sem.run_pure])
        simpa using this
      refine ⟨x, hrun, ?_⟩
      unfold resOne at h
      split at h
      · rename_i s
        split at h
        · rename_i f t xs hs
          cases h
          obtain ⟨rfl, _⟩ := (e2 : SVRel w μ ok (.hot s none) x)
          refine ⟨ok, fun fr b hb => ?_, F.okT, μ s, rfl, arr_of F hs, fun b hb => ?_⟩
          · cases fr with
            | true => exact .inl ⟨F.okF b hb, F.okB b (F.okT b hb)⟩
            | false => exact (F.okS b hb).imp (fun h' => ⟨h', F.okB b hb⟩) (fun h' => ⟨rfl, h'⟩)
          · have hB := F.ownB s b (by rw [hs]; rfl) hb
            exact ⟨hB.2.1.resolve_right (hm b), hB.1, hB.2.2⟩
        · cases h
      · rename_i s
        split at h
        · rename_i f kt vt es hs
          cases h
          obtain ⟨b, k1, k2⟩ := mapO_of F hs
          obtain ⟨b', k1', rfl⟩ := (e2 : SVRel0 w μ ok (.mref s) x)
          rw [k1] at k1'; cases k1'
          have hB := F.ownB s b (by rw [hs]; rfl) k1
          refine ⟨ok, fun fr b hb => ?_, F.okT, b, rfl, k2, hB.2.1.resolve_right (hm b), hB.1, hB.2.2⟩
          cases fr with
          | true => exact .inl ⟨F.okF b hb, F.okB b (F.okT b hb)⟩
          | false => exact (F.okS b hb).imp (fun h' => ⟨h', F.okB b hb⟩) (fun h' => ⟨rfl, h'⟩)
        · cases h
      · split at h
        · rename_i cs hc
          cases h
          obtain ⟨us, e, hu⟩ := resComp_rel F hm e2 hc
          exact ⟨okR w0 w ok, (okR_ok F).1, (okR_ok F).2, us, e, hu⟩
        · rename_i y hc
          cases h
          obtain ⟨z, e, hz⟩ := resComp_rel F hm e2 hc
          cases e
          refine ⟨okR w0 w ok, (okR_ok F).1, (okR_ok F).2, ?_⟩
          by_cases hj : y = .junk
          · subst hj; trivial
          · show AVRel w μ0 (okR w0 w ok) (.one y) x
            rw [AVRel.eq1 hj]; exact hz
        · cases h
    · cases h
  · rename_i hne
    split at h
    · rename_i ps hps
      cases h
      refine tupCase ps (fun hl => ?_) hps rfl
      match hq : fn.results.toList, hl with
      | [rv], _ => exact hne rv hq
    · cases h

/-- A FUNCTION's CONTRACT, OUT OF ITS ABSTRACT RUN. -/
theorem good_of (hM : P.follows .mixedOrders = true) (hP : TabOk P tb) (hΓ : OrcOk P Γ) {f : FuncId} {fn : Func} {c : Code} {n : Nat} {rs : List ResultVar} (hf : P.funcs[f]? = some fn) (hb : fn.body = some c) (hn : fn.ntmps = n) (hrs : fn.results.toList = rs)
    (args : List AV) (hl : args.length ≤ n) (ms : Lay) (hms : n = ms.n) (Λ : Lam AV) (hL : ∀ p ∈ loopsOf 0 c, LoopP tb Γ Λ ms p) {K : AE → St → Option AV} (hK : ∀ e st r, K e st = some r → ∃ r0, Kret tb rs e st = some r0 ∧ ∀ w okA w' v, ResRel w okA w' r0 v → ResRel w okA w' r v)
    {r : AV} (h : aexec tb Γ Λ ms c 0 (st0 args n) K = some r) : Good P f args r := by
  intro w okA vs hA hargs
  refine calls_of_wp hf hb ?_
  have hsz : vs.length = args.length := hargs.length.symm
  let tm : Array Value := vs.toArray ++ Array.replicate (fn.ntmps - vs.toArray.size) undef
  have htm : tm.toList = vs ++ List.replicate (n - args.length) undef := by
    simp [tm, hn, hsz]
  have F : Facts ⟨none1, okA, n, n, fun _ => none⟩ w (st0 args n) tm w μ0 (argOK okA) := by
    have hat : ∀ i, (∃ x v, St.at (st0 args n) i = x ∧ tm.getD i undef = v ∧ AVRel w μ0 (argOK okA) x v) ∨ St.at (st0 args n) i = .one .junk := by
      intro i
      unfold St.at st0
      rcases Nat.lt_or_ge i args.length with hi | hi
      · left
        obtain ⟨v, hv, hr⟩ := hargs.get i args[i] (List.getElem?_eq_getElem hi)
        refine ⟨args[i], v, by simp [List.getD_eq_getElem?_getD, List.getElem?_append_left hi, hi], ?_, hr⟩
        rw [Array.getD_eq_getD_getElem?, ← Array.getElem?_toList, htm, List.getElem?_append_left (by omega), hv]; rfl
      · right
        simp only [List.getD_eq_getElem?_getD, List.getElem?_append_right hi, List.getElem?_replicate]
        split <;> rfl
    have hno : ∀ i, (St.at (st0 args n) i).isOwner = false := by
      intro i
      rcases hat i with ⟨x, v, rfl, _, hr⟩ | h
      · cases hx : St.at (st0 args n) i <;> first | rfl | (rw [hx] at hr; exact hr.elim)
      · rw [h]; rfl
    have hng : ∀ i, (St.at (st0 args n) i).isGho = false := by
      intro i
      rcases hat i with ⟨x, v, rfl, _, hr⟩ | h
      · exact hr.noGho
      · rw [h]; rfl
    have how : ∀ i, St.ow (st0 args n) i = St.at (st0 args n) i := fun i => AV.un_id (hng i)
    have hlen0 : (st0 args n).length = n := by simp [st0]; omega
    have hsn : tm.size = n := by
      have : tm.size = tm.toList.length := by simp
      rw [this, htm]; simp [hsz]; omega
    refine ⟨fun i => ?_, fun i => ?_, hsn, fun i h1 h2 => ?_, fun i _ => hng i, ⟨Nat.le_of_eq hlen0.symm, Nat.le_of_eq hlen0.symm⟩, fun i l h => (by cases h), fun i b hi => ?_, fun i j b hi => ?_, fun b hb => hA b hb.2, fun b hb => ?_, fun b hb => ?_, fun b hb => .inr hb.2, ⟨rfl, rfl, rfl, Nat.le_refl _, fun _ _ _ => rfl⟩⟩
    · rcases hat i with ⟨x, v, h1, h2, hr⟩ | h
      · rw [h1, h2]
        exact SlotRel.of_av (by rw [← h1]; exact hno i) hr
      · rw [h]; trivial
    · rw [how i]
      have := hno i
      cases hx : St.at (st0 args n) i <;> first | trivial | (rw [hx] at this; cases this)
    · have : (st0 args n).length = n := by simp [st0]; omega
      simp only at h1
      omega
    · rw [how i, hno i] at hi; cases hi
    · rw [how i, hno i] at hi; cases hi
    · cases hb.1
    · cases hb.1
  refine aexec_sound hM hP hΓ ms ⟨hms, by show n ≤ _; omega⟩ Λ c 0 _ tm w μ0 _ _ _ hL F h ?_ ?_
  rotate_left
  · intro c a w h
    obtain ⟨_, v, e, _⟩ := h
    cases e
  intro e st' tm' w' μ' ok' F' h'
  obtain ⟨r0, h', hr0⟩ := hK e st' r h'
  have fin : resAV tb st' rs = some r0 → ([] : List Deferred) = [] ∧ ∃ v, (results fn tm').run P w' = .ok v w' ∧ ∃ v', Ending.returned v = .returned v' ∧ Fr none1 w w' ∧ ResRel w okA w' r v' := by
    intro hr
    obtain ⟨v, e1, e2⟩ := resAV_rel (a := ⟨tm', []⟩) hP F' (fun b h => h) (by rw [hrs]; exact hr)
    exact ⟨rfl, v, e1, v, rfl, F'.fr, hr0 _ _ _ _ e2⟩
  cases e with
  | normal => exact fin h'
  | ret => exact fin h'
  | exit id => cases h'
end

end Go.AM
