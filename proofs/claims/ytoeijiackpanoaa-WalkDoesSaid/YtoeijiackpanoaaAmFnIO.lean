/- An abstract machine over the model's own code: a whole function that writes what it is given, and its contract. -/
import Derived.Test.YtoeijiackpanoaaAmFn
set_option linter.unusedVariables false
set_option linter.unusedSectionVars false
set_option linter.unusedSimpArgs false
namespace Go.AM

/-- The shape that an answer is brought to. -/
inductive WK where
  | id
  | sl (fr : Bool) (t : Ty)
  | arr (t : Ty)
  | mp (fr : Bool) (kt vt : Ty)
def wkM (f0 : Bool) (kt vt : Ty) : SV → SV
  | .nilm => .sm f0 kt vt []
  | .sm fr kt' vt' es => .sm (fr && f0) kt' vt' es
  | v => v
def wkS (f0 : Bool) (t : Ty) : SV → SV
  | .nils => .sl f0 t none []
  | .sl fr t' _ xs => .sl (fr && f0) t' none xs
  | v => v
section
variable {w w' : World} {okA : Nat → Prop} {μ : Locs} {ok : OK}
theorem wkS_rel (hT : ∀ b, ok true b → ok false b) {f0 : Bool} {t : Ty} {x : SV} {v : Value} (h : SVRel w μ ok x v) : SVRel w μ ok (wkS f0 t x) v := by
  cases x with
  | nils =>
    obtain rfl : v = .slice none 0 0 := h
    exact ⟨⟨none, 0, rfl, by simp, by simp, .inl ⟨rfl, rfl, rfl⟩⟩, trivial⟩
  | sl fr t' nl xs =>
    refine ⟨TRel.mono (fun _ _ => rfl) (fun b hb => ?_) h.1, trivial⟩
    cases fr with
    | true => cases f0 with
      | true => exact hb
      | false => exact hT b hb
    | false => exact hb
  | _ => exact h
theorem wkM_rel (hT : ∀ b, ok true b → ok false b) {f0 : Bool} {kt vt : Ty} {x : SV} {v : Value} (h : SVRel w μ ok x v) : SVRel w μ ok (wkM f0 kt vt x) v := by
  cases x with
  | nilm => exact .inl ⟨h, rfl⟩
  | sm fr kt' vt' es =>
    have weak : ∀ b, ok fr b → ok (fr && f0) b := fun b hb => by
      cases fr with
      | true => cases f0 with
        | true => exact hb
        | false => exact hT b hb
      | false => exact hb
    rcases (h : SVRel0 w μ ok (.sm fr kt' vt' es) v) with h | ⟨b, e, hb, h⟩
    · exact .inl h
    · exact .inr ⟨b, e, weak b hb, h.mono (fun _ _ => rfl) weak rfl⟩
  | _ => exact h
theorem wkM_junk {f0 : Bool} {kt vt : Ty} {x : SV} (h : x ≠ .junk) : wkM f0 kt vt x ≠ .junk := by cases x <;> simp_all [wkM]
theorem wkS_junk {f0 : Bool} {t : Ty} {x : SV} (h : x ≠ .junk) : wkS f0 t x ≠ .junk := by cases x <;> simp_all [wkS]
end

/-! ### Results, with references -/
def compO : AV → Option (Bool × List SV)
  | .one .junk => none
  | .one v => some (false, [v])
  | .agg cs => some (true, cs)
  | _ => none
def compsO (tb : Tab) (st : St) : List ResultVar → Option (List (Bool × List SV))
  | [] => some []
  | r :: l =>
    match resVar tb st r with
    | some v =>
      match compO v, compsO tb st l with
      | some x, some y => some (x :: y)
      | _, _ => none
    | none => none
def resO (tb : Tab) (st : St) : List ResultVar → Option AV
  | [r] =>
    match resVar tb st r with
    | some v =>
      match compO v with
      | some (true, cs) => some (.agg cs)
      | some (false, [x]) => some (.one x)
      | _ => none
    | none => none
  | l =>
    match compsO tb st l with
    | some x => some (.tup x)
    | none => none

/-- A slice that is nil is a row of its own. -/
def rowS (k : Nat) : WK → SV → SV × List AV
  | .arr t, .nils => (.hot k none, [.arr true t []])
  | .sl f t, v => (wkS f t v, [])
  | .mp f kt vt, v => (wkM f kt vt v, [])
  | _, v => (v, [])
def rowComps : Nat → List WK → List (Bool × List SV) → List (Bool × List SV) × List AV
  | k, w :: ws, (false, [v]) :: r => ((false, [(rowS k w v).1]) :: (rowComps (k + (rowS k w v).2.length) ws r).1, (rowS k w v).2 ++ (rowComps (k + (rowS k w v).2.length) ws r).2)
  | k, _ :: ws, p :: r => (p :: (rowComps k ws r).1, (rowComps k ws r).2)
  | _, _, l => (l, [])
def rowA (k : Nat) (ws : List WK) : AV → AV × List AV
  | .tup l => (.tup (rowComps k ws l).1, (rowComps k ws l).2)
  | .one v => match ws with
    | [w] => (.one (rowS k w v).1, (rowS k w v).2)
    | _ => (.one v, [])
  | v => (v, [])

def KretIO (tb : Tab) (n p : Nat) (rs : List ResultVar) (ws : List WK) (e : AE) (st : St) : Option (AV × List AV) :=
  match e with
  | .exit _ => none
  | _ =>
    match resO tb st rs with
    | some r0 =>
      let L := reachN st 32 (addN (upN n p) r0.slots) 0
      match renA true (fun s => posN s L 0) r0, renAs true (fun s => posN s L 0) (L.map st.ow) with
      | some r, some gs => bif distN L && gs.all AV.isOwner && !r.isOwner then some ((rowA L.length ws r).1, gs ++ (rowA L.length ws r).2) else none
      | _, _ => none
    | none => none

section
variable {P : Program} {mine : Cx} {w0 : World} {st : St} {a : Act} {w : World} {μ : Locs} {ok : OK} {tb : Tab} {Γ : Orc}

theorem compO_rel {v : AV} {x : Value} {p : Bool × List SV} (hv : AVRel w μ ok v x) (h : compO v = some p) : compRel w μ ok p x := by
  unfold compO at h
  split at h
  · cases h
  · rename_i y hy
    cases h
    have hj : y ≠ .junk := hy
    exact ⟨y, rfl, by rwa [AVRel.eq1 hj] at hv⟩
  · cases h; exact hv
  · cases h

theorem resO_rel (hP : TabOk P tb) (F : Facts mine w0 st a.tmps w μ ok) {fn : Func} {r : AV} (h : resO tb st fn.results.toList = some r) : ∃ v, (results fn a.tmps).run P w = .ok v w ∧ AVRel w μ ok r v := by
  have all : ∀ (l : List ResultVar) (ps : List (Bool × List SV)), compsO tb st l = some ps → ∃ vs : List Value,
      (l.mapM (runVar a.tmps)).run P w = .ok vs w ∧ All2 (compRel w μ ok) ps vs ∧ l.length = ps.length := by
    intro l
    induction l with
    | nil => intro ps he; simp only [compsO, Option.some.injEq] at he; subst he; exact ⟨[], by simp, .nil, rfl⟩
    | cons r l ih =>
      intro ps he
      simp only [compsO] at he
      split at he
      · rename_i v hv
        split at he
        · rename_i x y h1 h2
          cases he
          obtain ⟨z, e1, e2⟩ := resVar_rel hP F hv
          obtain ⟨vs, e3, e4, e5⟩ := ih y h2
          refine ⟨z :: vs, ?_, .cons (compO_rel e2 h1) e4, by simp [e5]⟩
          simp only [List.mapM_cons, Sem.run_bind]
          rw [e1]
          simp only [Result.andThen_ok, e3, Sem.run_pure]
        · cases he
      · cases he
  have res : ∀ (vs : List Value), (fn.results.toList.mapM (runVar a.tmps)).run P w = .ok vs w →
      (results fn a.tmps).run P w = .ok (if h : vs.length = 1 then vs[0]'(by omega) else .tuple vs.toArray) w := by
    intro vs hvs
    rw [results_eq]
    have e : (fn.results.mapM (runVar a.tmps)).run P w = .ok vs.toArray w := by
      conv => lhs; rw [show fn.results = fn.results.toList.toArray by simp]
      rw [List.mapM_toArray]
      simp only [Sem.run_map, hvs, Result.andThen_ok]
    simp only [Sem.run_bind, e, Result.andThen_ok, Sem.run_pure]
    congr 1
  unfold resO at h
  split at h
  · rename_i rv hl
    split at h
    · rename_i v hv
      obtain ⟨x, e1, e2⟩ := resVar_rel hP F hv
      have hrun : (results fn a.tmps).run P w = .ok x w := by
        have := res [x] (by
          rw [hl]
          simp only [List.mapM_cons, List.mapM_nil, Sem.run_bind]
          rw [e1]
          simp only [Result.andThen_ok, Sem.run_pure])
        simpa using this
      refine ⟨x, hrun, ?_⟩
      split at h
      · rename_i cs hc
        cases h
        exact compO_rel e2 hc
      · rename_i y hc
        cases h
        obtain ⟨z, e, hz⟩ := compO_rel e2 hc
        cases e
        have hj : y ≠ .junk := by
          intro e; subst e
          cases v with
          | one z => cases z <;> simp [compO] at hc
          | _ => simp [compO] at hc
        rw [AVRel.eq1 hj]; exact hz
      · cases h
    · cases h
  · rename_i hne
    split at h
    · rename_i ps hps
      cases h
      obtain ⟨vs, e1, e2, e3⟩ := all _ _ hps
      have hlen : vs.length ≠ 1 := by
        have h1 := e2.length
        intro hl
        have : fn.results.toList.length = 1 := by omega
        match hq : fn.results.toList, this with
        | [rv], _ => exact hne rv hq
      have := res vs e1
      rw [dif_neg hlen] at this
      exact ⟨_, this, vs, rfl, e2⟩
    · cases h

theorem rowS_rel (hT : ∀ b, ok true b → ok false b) {k : Nat} (hk : ∀ j, k ≤ j → μ j = ⟨none, 0, 0⟩) {wk : WK} {x : SV} {v : Value} (h : SVRel w μ ok x v) : SVRel w μ ok (rowS k wk x).1 v ∧ ((rowS k wk x).1 = .junk → x = .junk) := by
  unfold rowS
  split
  · obtain rfl : v = .slice none 0 0 := h
    refine ⟨?_, fun e => by cases e⟩
    have e := hk k (Nat.le_refl _)
    refine ⟨?_, (fun m hm => by cases hm), ?_⟩
    · rw [e]; rfl
    · rw [e]; show (0 : Nat) ≤ _; omega
  · rename_i f t
    refine ⟨wkS_rel hT h, fun e => ?_⟩
    by_cases hj : x = .junk
    · exact hj
    · exact absurd e (wkS_junk hj)
  · refine ⟨wkM_rel hT h, fun e => ?_⟩
    by_cases hj : x = .junk
    · exact hj
    · exact absurd e (wkM_junk hj)
  · exact ⟨h, id⟩

theorem rowComps_rel (hT : ∀ b, ok true b → ok false b) : ∀ (ws : List WK) {k : Nat} (hk : ∀ j, k ≤ j → μ j = ⟨none, 0, 0⟩) {l : List (Bool × List SV)} {vs : List Value}, All2 (compRel w μ ok) l vs → All2 (compRel w μ ok) (rowComps k ws l).1 vs := by
  intro ws
  induction ws with
  | nil => intro k hk l vs h; cases l <;> exact h
  | cons wk ws ih =>
    intro k hk l vs h
    cases h with
    | nil => exact .nil
    | @cons p v l vs hp hl =>
      obtain ⟨f, cs⟩ := p
      have keep : All2 (compRel w μ ok) ((f, cs) :: (rowComps k ws l).1) (v :: vs) := .cons hp (ih hk hl)
      cases f with
      | true => exact keep
      | false =>
        match cs, hp, keep with
        | [], _, keep => exact keep
        | [x], hp, _ =>
          obtain ⟨y, e, hy⟩ := hp
          simp only [List.cons.injEq, and_true] at e
          subst e
          exact .cons ⟨_, rfl, (rowS_rel hT hk hy).1⟩ (ih (fun j hj => hk j (by omega)) hl)
        | _ :: _ :: _, _, keep => exact keep

theorem rowA_rel (hT : ∀ b, ok true b → ok false b) {k : Nat} (hk : ∀ j, k ≤ j → μ j = ⟨none, 0, 0⟩) {ws : List WK} {r : AV} {v : Value} (h : AVRel w μ ok r v) : AVRel w μ ok (rowA k ws r).1 v := by
  cases r with
  | tup l => obtain ⟨vs, e, hh⟩ := h; exact ⟨vs, e, rowComps_rel hT ws hk hh⟩
  | one x =>
    match ws with
    | [] => exact h
    | _ :: _ :: _ => exact h
    | [q] =>
      show AVRel w μ ok (.one (rowS k q x).1) v
      by_cases hj : x = .junk
      · subst hj
        have : (rowS k q SV.junk).1 = .junk := by cases q <;> rfl
        rw [this]; trivial
      · rw [AVRel.eq1 hj] at h
        obtain ⟨h1, h2⟩ := rowS_rel (wk := q) hT hk h
        rw [AVRel.eq1 fun e => hj (h2 e)]; exact h1
  | agg cs => exact h
  | own cs => exact h
  | arr f t xs => exact h
  | mapO f kt vt es => exact h
  | gho o => exact h

theorem rowS_ext {k : Nat} {wk : WK} {x : SV} : ∀ y ∈ (rowS k wk x).2, ∃ t, y = .arr true t [] := by
  unfold rowS
  split <;> simp
theorem rowComps_ext : ∀ (ws : List WK) (k : Nat) (l : List (Bool × List SV)), ∀ y ∈ (rowComps k ws l).2, ∃ t, y = AV.arr true t [] := by
  intro ws
  induction ws with
  | nil => intro k l y hy; cases l <;> simp [rowComps] at hy
  | cons wk ws ih =>
    intro k l y hy
    match l with
    | [] => simp [rowComps] at hy
    | (false, [x]) :: r =>
      simp only [rowComps, List.mem_append] at hy
      rcases hy with h | h
      · exact rowS_ext y h
      · exact ih _ _ y h
    | (false, []) :: r => exact ih k r y hy
    | (false, _ :: _ :: _) :: r => exact ih k r y hy
    | (true, _) :: r => exact ih k r y hy
theorem rowA_ext (k : Nat) (ws : List WK) (r : AV) : ∀ y ∈ (rowA k ws r).2, ∃ t, y = AV.arr true t [] := by
  intro y hy
  cases r with
  | tup l => exact rowComps_ext ws k l y hy
  | one x =>
    match ws with
    | [] => cases hy
    | _ :: _ :: _ => cases hy
    | [q] => exact rowS_ext y hy
  | _ => cases hy

theorem mem_posN {L : List Nat} {s : Nat} (h : s ∈ L) : ∀ i, ∃ k, posN s L i = some k := by
  induction L with
  | nil => cases h
  | cons a L ih =>
    intro i
    simp only [posN]
    cases hb : Nat.beq a s with
    | true => exact ⟨i, rfl⟩
    | false =>
      rcases List.mem_cons.1 h with rfl | h
      · rw [Nat.beq_refl] at hb; cases hb
      · exact ih h (i + 1)

/-- A CONTRACT OF A FUNCTION THAT WRITES WHAT IT IS GIVEN, OUT OF ITS ABSTRACT RUN. -/
theorem good_ofIO (hM : P.follows .mixedOrders = true) (hP : TabOk P tb) (hΓ : OrcOk P Γ) {f : FuncId} {fn : Func} {c : Code} {n : Nat} {rs : List ResultVar} (hf : P.funcs[f]? = some fn) (hb : fn.body = some c) (hn : fn.ntmps = n) (hrs : fn.results.toList = rs)
    (args gs : List AV) (p : Nat) {ys hs : List AV} (hys : renAs true (fun k => some (n + k)) args = some ys) (hhs : renAs true (fun k => some (n + k)) gs = some hs) (hgo : gs.all AV.isOwner = true) (hp : p ≤ gs.length) (hl : args.length ≤ n) (ms : Lay) (hms : n = ms.n) (hmg : gs.length ≤ ms.g) (Λ : Lam (AV × List AV))
    (hL : ∀ p ∈ loopsOf 0 c, LoopP tb Γ Λ ms p) (ws : List WK) {r : AV} {gs' : List AV} (h : aexec tb Γ Λ ms c 0 (st0 ys n ++ hs.map fun o => .gho o.ov) (KretIO tb n p rs ws) = some (r, gs')) : GoodIO P f args p gs r gs' := by
  intro w okA vs μ hA hargs hO
  refine calls_of_wp hf hb ?_
  obtain ⟨hyl, _⟩ := renAs_get hys
  obtain ⟨hhl, hhget⟩ := renAs_get hhs
  have hsz : vs.length = args.length := hargs.length.symm
  let tm : Array Value := vs.toArray ++ Array.replicate (fn.ntmps - vs.toArray.size) undef
  have htm : tm.toList = vs ++ List.replicate (n - args.length) undef := by
    simp [tm, hn, hsz]
  obtain ⟨μ1, hμ1⟩ : ∃ μ1 : Locs, μ1 = fun i => if n ≤ i then μ (i - n) else ⟨none, 0, 0⟩ := ⟨_, rfl⟩
  have hRen : Ren μ μ1 (argOK okA) (argOK okA) true (fun k => some (n + k)) :=
    ⟨fun s k h => by cases h; rw [hμ1]; simp only; rw [if_pos (by omega), Nat.add_sub_cancel_left], fun fr b h => by rw [Bool.and_true]; exact h⟩
  have hargs' := renAs_rel hRen hargs hys
  have hlen0 : (st0 ys n).length = n := by simp [st0]; omega
  have hatl : ∀ i, i < n → (∃ x v, St.at (st0 ys n ++ hs.map fun o => .gho o.ov) i = x ∧ tm.getD i undef = v ∧ AVRel w μ1 (argOK okA) x v) ∨ St.at (st0 ys n ++ hs.map fun o => .gho o.ov) i = .one .junk := by
    intro i hi
    rw [St.at_append, hlen0, if_pos hi]
    unfold St.at st0
    rcases Nat.lt_or_ge i ys.length with hi | hi
    · left
      obtain ⟨v, hv, hr⟩ := hargs'.get i ys[i] (List.getElem?_eq_getElem hi)
      refine ⟨ys[i], v, by simp [List.getD_eq_getElem?_getD, List.getElem?_append_left hi, hi], ?_, hr⟩
      rw [Array.getD_eq_getD_getElem?, ← Array.getElem?_toList, htm, List.getElem?_append_left (by omega), hv]; rfl
    · right
      simp only [List.getD_eq_getElem?_getD, List.getElem?_append_right hi, List.getElem?_replicate]
      split <;> rfl
  have hatg : ∀ i, n ≤ i → (∃ k g h', i = n + k ∧ gs[k]? = some g ∧ ownAt gs k = g ∧ renA true (fun k => some (n + k)) g = some h' ∧ g.isOwner = true ∧ St.at (st0 ys n ++ hs.map fun o => .gho o.ov) i = .gho h'.ov ∧ St.ow (st0 ys n ++ hs.map fun o => .gho o.ov) i = h') ∨
      (St.at (st0 ys n ++ hs.map fun o => .gho o.ov) i = .one .junk ∧ n + gs.length ≤ i) := by
    intro i hi
    rcases Nat.lt_or_ge (i - n) gs.length with hlt | hge
    · left
      obtain ⟨h', e1, e2⟩ := hhget (i - n) gs[i - n] (List.getElem?_eq_getElem hlt)
      have ho : (gs[i - n]).isOwner = true := List.all_eq_true.1 hgo _ (List.getElem_mem hlt)
      have hat : St.at (st0 ys n ++ hs.map fun o => .gho o.ov) i = .gho h'.ov := by
        rw [St.at_append, hlen0, if_neg (by omega)]
        unfold St.at
        simp [List.getD_eq_getElem?_getD, e1]
      refine ⟨i - n, _, h', by omega, List.getElem?_eq_getElem hlt, by unfold ownAt; simp [List.getD_eq_getElem?_getD, hlt], e2, ho, hat, ?_⟩
      unfold St.ow
      rw [hat]
      exact ov_av (.inl (by rw [renA_owner e2]; exact ho))
    · right
      refine ⟨St.at_out _ _ (by simp [hlen0, hhl]; omega), by omega⟩
  have hlow : ∀ i, i < n → (St.at (st0 ys n ++ hs.map fun o => .gho o.ov) i).isOwner = false ∧ (St.at (st0 ys n ++ hs.map fun o => .gho o.ov) i).isGho = false := by
    intro i hi
    rcases hatl i hi with ⟨x, v, rfl, _, hr⟩ | h
    · exact ⟨by cases hx : St.at (st0 ys n ++ hs.map fun o => .gho o.ov) i <;> first | rfl | (rw [hx] at hr; exact hr.elim), hr.noGho⟩
    · rw [h]; exact ⟨rfl, rfl⟩
  have howl : ∀ i, i < n → St.ow (st0 ys n ++ hs.map fun o => .gho o.ov) i = St.at (st0 ys n ++ hs.map fun o => .gho o.ov) i := fun i hi => AV.un_id (hlow i hi).2
  have hownG : ∀ i, (St.ow (st0 ys n ++ hs.map fun o => .gho o.ov) i).isOwner = true → ∃ k, i = n + k ∧ (ownAt gs k).isOwner = true ∧ μ1 i = μ k := by
    intro i hi
    rcases Nat.lt_or_ge i n with hlt | hge
    · rw [howl i hlt, (hlow i hlt).1] at hi; cases hi
    · rcases hatg i hge with ⟨k, g, h', e1, e2, e3, e4, e5, e6, e7⟩ | ⟨h, _⟩
      · refine ⟨k, e1, by rw [e3]; exact e5, ?_⟩
        rw [hμ1, e1]; simp only; rw [if_pos (by omega), Nat.add_sub_cancel_left]
      · unfold St.ow at hi; rw [h] at hi; cases hi
  have F : Facts ⟨ioMine gs μ, okA, n, n + gs.length, fun i => if n ≤ i ∧ i < n + p then some (μ (i - n)) else none⟩ w (st0 ys n ++ hs.map fun o => .gho o.ov) tm w μ1 (argOK okA) := by
    have hsn : tm.size = n := by
      have : tm.size = tm.toList.length := by simp
      rw [this, htm]; simp [hsz]; omega
    refine ⟨fun i => ?_, fun i => ?_, hsn, fun i h1 h2 => ?_, fun i h1 => (hlow i h1).2, ?_, fun i l h => ?_, fun i b hi hb => ?_, fun i j b hi hj hib hjb => ?_, fun b hb => hA b hb.2, fun b hb => ?_, fun b hb => ?_, fun b hb => .inr hb.2, ⟨rfl, rfl, rfl, Nat.le_refl _, fun _ _ _ => rfl⟩⟩
    · rcases Nat.lt_or_ge i n with hlt | hge
      · rcases hatl i hlt with ⟨x, v, h1, h2, hr⟩ | h
        · rw [h1, h2]
          exact SlotRel.of_av (by rw [← h1]; exact (hlow i hlt).1) hr
        · rw [h]; trivial
      · rcases hatg i hge with ⟨k, g, h', e1, e2, e3, e4, e5, e6, e7⟩ | ⟨h, _⟩
        · rw [e6]; trivial
        · rw [h]; trivial
    · rcases Nat.lt_or_ge i n with hlt | hge
      · rw [howl i hlt]
        have := (hlow i hlt).1
        cases hx : St.at (st0 ys n ++ hs.map fun o => .gho o.ov) i <;> first | trivial | (rw [hx] at this; cases this)
      · rcases hatg i hge with ⟨k, g, h', e1, e2, e3, e4, e5, e6, e7⟩ | ⟨h, _⟩
        · rw [e7]
          exact renOwn_rel hRen (by rw [hμ1, e1]; simp only; rw [if_pos (by omega), Nat.add_sub_cancel_left]) (e3 ▸ hO.own k) e4
        · unfold St.ow; rw [h]; trivial
    · rcases hatg i h1 with ⟨k, g, h', e1, e2, e3, e4, e5, e6, e7⟩ | ⟨_, h⟩
      · rw [e6]; rfl
      · simp [hlen0, hhl] at h2; simp only at h1; omega
    · simp [hlen0, hhl]
    · simp only at h
      split at h
      · rename_i hi
        cases h
        refine ⟨hi.1, by show i < n + gs.length; omega, ?_⟩
        rw [hμ1]; simp only; rw [if_pos hi.1]
      · cases h
    · obtain ⟨k, e1, e2, e3⟩ := hownG i hi
      rw [e3] at hb
      obtain ⟨b1, b2⟩ := hO.blk k b e2 hb
      exact ⟨b1, .inr ⟨k, e2, hb⟩, b2⟩
    · obtain ⟨k, e1, e2, e3⟩ := hownG i hi
      obtain ⟨k', f1, f2, f3⟩ := hownG j hj
      rw [e3] at hib
      rw [f3] at hjb
      rw [e1, f1, hO.inj k k' b e2 f2 hib hjb]
    · cases hb.1
    · cases hb.1
  refine aexec_sound hM hP hΓ ms ⟨hms, by show n + gs.length ≤ _; omega⟩ Λ c 0 _ tm w μ1 _ _ _ hL F h ?_ ?_
  rotate_left
  · intro c a w h
    obtain ⟨_, v, e, _⟩ := h
    cases e
  intro e st' tm' w' μ' ok' F' h'
  have fin : (match resO tb st' rs with
    | some r0 =>
      match renA true (fun s => posN s (reachN st' 32 (addN (upN n p) r0.slots) 0) 0) r0, renAs true (fun s => posN s (reachN st' 32 (addN (upN n p) r0.slots) 0) 0) ((reachN st' 32 (addN (upN n p) r0.slots) 0).map st'.ow) with
      | some r, some gs => bif distN (reachN st' 32 (addN (upN n p) r0.slots) 0) && gs.all AV.isOwner && !r.isOwner then some ((rowA (reachN st' 32 (addN (upN n p) r0.slots) 0).length ws r).1, gs ++ (rowA (reachN st' 32 (addN (upN n p) r0.slots) 0).length ws r).2) else none
      | _, _ => none
    | none => none) = some (r, gs') → ([] : List Deferred) = [] ∧ ∃ v, (results fn tm').run P w' = .ok v w' ∧ ∃ v', Ending.returned v = .returned v' ∧ Fr (ioMine gs μ) w w' ∧ ∃ (ok' : OK) (μ' : Locs),
      (∀ fr b, ok' fr b → resOK w w' okA fr b) ∧ (∀ b, ok' true b → ok' false b) ∧ AVRel w' μ' ok' r v' ∧ OwnsOk w' μ' ok' gs' ∧
      (∀ k b, (ownAt gs' k).isOwner = true → (μ' k).b = some b → w.heap.size ≤ b ∨ ioMine gs μ b) ∧ (∀ k, k < p → μ' k = μ k) := by
    intro hr
    split at hr
    · rename_i r0 hr0
      obtain ⟨L, hLdef⟩ : ∃ L, L = reachN st' 32 (addN (upN n p) r0.slots) 0 := ⟨_, rfl⟩
      rw [← hLdef] at hr
      have hpre : ∃ t, L = upN n p ++ t := by
        obtain ⟨t1, h1⟩ := addN_pre r0.slots (upN n p)
        obtain ⟨t2, h2⟩ := reachN_pre st' 32 (addN (upN n p) r0.slots) 0
        exact ⟨t1 ++ t2, by rw [hLdef, h2, h1]; simp⟩
      split at hr
      · rename_i r1 g1 e1 e2
        cases hc : (distN L && g1.all AV.isOwner && !r1.isOwner) with
        | false => rw [hc] at hr; cases hr
        | true =>
          rw [hc] at hr
          simp only [cond_true, Option.some.injEq, Prod.mk.injEq] at hr
          obtain ⟨hr2, hg2⟩ := hr
          simp only [Bool.and_eq_true, Bool.not_eq_true'] at hc
          obtain ⟨⟨hd, hgo1⟩, _⟩ := hc
          have hnd := distN_nodup hd
          obtain ⟨v, hv1, hv2⟩ := resO_rel (a := ⟨tm', []⟩) hP F' (by rw [hrs]; exact hr0)
          obtain ⟨ν, hν⟩ : ∃ ν : Locs, ν = fun k => if k < L.length then μ' (nthN L k) else ⟨none, 0, 0⟩ := ⟨_, rfl⟩
          have hR : Ren μ' ν ok' ok' true (fun s => posN s L 0) := ⟨fun s k h => by
            obtain ⟨j, j1, j2⟩ := posN_spec h
            rw [Nat.zero_add] at j1
            subst j1
            rw [hν]; simp only
            rw [if_pos (List.getElem?_eq_some_iff.1 j2).1, nthN_of j2], fun fr b h => by rw [Bool.and_true]; exact h⟩
          obtain ⟨hg1l, hg1get⟩ := renAs_get e2
          simp only [List.length_map] at hg1l
          have hrow : AVRel w' ν ok' (rowA L.length ws r1).1 v := rowA_rel F'.okT (fun j hj => by rw [hν]; exact if_neg (by omega)) (renA_rel hR hv2 e1)
          have hown : ∀ k, (∃ s g, L[k]? = some s ∧ ownAt gs' k = g ∧ renA true (fun s => posN s L 0) (st'.ow s) = some g ∧ ν k = μ' s) ∨ (L.length ≤ k ∧ ((∃ t, ownAt gs' k = .arr true t []) ∨ ownAt gs' k = .one .junk)) := by
            intro k
            rcases Nat.lt_or_ge k L.length with hlt | hge
            · left
              obtain ⟨y, f1, f2⟩ := hg1get k (st'.ow L[k]) (by simp [hlt])
              refine ⟨L[k], y, List.getElem?_eq_getElem hlt, ?_, f2, ?_⟩
              · unfold ownAt
                rw [← hg2, List.getD_eq_getElem?_getD, List.getElem?_append_left (by omega), f1]; rfl
              · rw [hν]; simp only; rw [if_pos hlt, nthN_of (List.getElem?_eq_getElem hlt)]
            · right
              refine ⟨hge, ?_⟩
              unfold ownAt
              rw [← hg2, List.getD_eq_getElem?_getD, List.getElem?_append_right (by omega)]
              cases hx : (rowA L.length ws r1).2[k - g1.length]? with
              | none => exact .inr rfl
              | some y =>
                obtain ⟨t, ht⟩ := rowA_ext L.length ws r1 y (List.mem_of_getElem? hx)
                exact .inl ⟨t, by rw [ht]; rfl⟩
          have hν0 : ∀ k, L.length ≤ k → ν k = ⟨none, 0, 0⟩ := fun k hk => by rw [hν]; exact if_neg (by omega)
          have hblk : ∀ k b, (ownAt gs' k).isOwner = true → (ν k).b = some b → ∃ s, L[k]? = some s ∧ (st'.ow s).isOwner = true ∧ (μ' s).b = some b := by
            intro k b hk hb
            rcases hown k with ⟨s, g, f1, f2, f3, f4⟩ | ⟨hge, _⟩
            · rw [f2, renA_owner f3] at hk
              rw [f4] at hb
              exact ⟨s, f1, hk, hb⟩
            · rw [hν0 k hge] at hb; cases hb
          refine ⟨rfl, v, hv1, v, rfl, F'.fr, ok', ν, fun fr b hb => ?_, F'.okT, hr2 ▸ hrow, ⟨fun k => ?_, fun k b hk hb => ?_, fun j k b hj hk hjb hkb => ?_⟩, fun k b hk hb => ?_, fun k hk => ?_⟩
          · cases fr with
            | true => exact .inl ⟨F'.okF b hb, F'.okB b (F'.okT b hb)⟩
            | false => exact (F'.okS b hb).imp (fun h => ⟨h, F'.okB b hb⟩) (fun h => ⟨rfl, h⟩)
          · rcases hown k with ⟨s, g, f1, f2, f3, f4⟩ | ⟨hge, ⟨t, ht⟩ | h⟩
            · rw [f2]; exact renOwn_rel hR f4 (F'.owns s) f3
            · rw [ht]
              refine ⟨by rw [hν0 k hge]; rfl, by rw [hν0 k hge]; exact Nat.le_refl _, by rw [hν0 k hge]; show (0 : Nat) ≤ _; omega, .inl ⟨by rw [hν0 k hge], rfl, by rw [hν0 k hge]⟩⟩
            · rw [h]; trivial
          · obtain ⟨s, f1, f2, f3⟩ := hblk k b hk hb
            exact ⟨(F'.ownB s b f2 f3).1, (F'.ownB s b f2 f3).2.2⟩
          · obtain ⟨s, f1, f2, f3⟩ := hblk j b hj hjb
            obtain ⟨s', g1', g2', g3'⟩ := hblk k b hk hkb
            have := F'.inj s s' b f2 g2' f3 g3'
            subst this
            exact nodup_inj hnd f1 g1'
          · obtain ⟨s, f1, f2, f3⟩ := hblk k b hk hb
            exact (F'.ownB s b f2 f3).2.1
          · obtain ⟨t, ht⟩ := hpre
            have hk2 : L[k]? = some (n + k) := by rw [ht, List.getElem?_append_left (by rw [upN_length]; exact hk), upN_get, if_pos hk]
            have hlt := (List.getElem?_eq_some_iff.1 hk2).1
            rw [hν]; simp only
            rw [if_pos hlt, nthN_of hk2]
            have := (F'.pin (n + k) (μ k) (by show (if n ≤ n + k ∧ n + k < n + p then some (μ (n + k - n)) else none) = _; rw [if_pos (by omega), Nat.add_sub_cancel_left])).2.2
            exact this
      · cases hr
    · cases hr
  cases e with
  | normal => exact fin h'
  | ret => exact fin h'
  | exit id => cases h'
end

end Go.AM
