/- An abstract machine over the model's own code: operators, and what is loaded, addressed, built. -/
import Derived.Test.YtoeijiackpanoaaAmOps
set_option linter.unusedVariables false
set_option linter.unusedSimpArgs false
namespace Go.AM

section
variable {P : Program} {mine : Cx} {w0 : World} {st : St} {a : Act} {w : World} {μ : Locs} {ok : OK} {tb : Tab}

theorem eqCells_rel : ∀ {ks : List CK} {xs ys : List SV} {us vs : List Value} {b : Bool}, All2 (SVRel w μ ok) xs us → All2 (SVRel w μ ok) ys vs → eqCells ks xs ys = some b →
    us.length = ks.length ∧ vs.length = ks.length ∧ (∀ (i : Nat) (k : CK), ks[i]? = some k → ∀ x y, us[i]? = some x → vs[i]? = some y → CK.ok k x y) ∧ sameAll us vs = b := by
  have cell : ∀ {k : CK} {x y : SV} {u v : Value} {b : Bool}, SVRel w μ ok x u → SVRel w μ ok y v → eqCell k x y = some b → CK.ok k u v ∧ CK.same u v = b := by
    intro k x y u v b hx hy h
    cases k <;> cases x <;> cases y <;> simp only [eqCell] at h <;> try (cases h; done)
    · rename_i k k1 a k2 c
      cases h1 : (ikEq k k1 && ikEq k k2) with
      | false => simp [h1] at h
      | true =>
        simp only [h1, cond_true, Option.some.injEq] at h
        simp only [Bool.and_eq_true] at h1
        obtain rfl := ikEq_eq h1.1
        obtain rfl := ikEq_eq h1.2
        obtain ⟨rfl, _⟩ := hx
        obtain ⟨rfl, _⟩ := hy
        exact ⟨⟨_, _, rfl, rfl⟩, h⟩
    · simp only [Option.some.injEq] at h
      rw [show u = _ from hx, show v = _ from hy]
      exact ⟨⟨_, _, rfl, rfl⟩, h⟩
    · simp only [Option.some.injEq] at h
      obtain ⟨rfl, _⟩ := hx
      obtain ⟨rfl, _⟩ := hy
      exact ⟨⟨_, _, rfl, rfl⟩, h⟩
  intro ks
  induction ks with
  | nil =>
    intro xs ys us vs b h1 h2 h
    cases h1 with
    | nil =>
      cases h2 with
      | nil => simp [eqCells] at h; subst h; exact ⟨rfl, rfl, by simp, rfl⟩
      | cons _ _ => simp [eqCells] at h
    | cons _ _ => simp [eqCells] at h
  | cons k ks ih =>
    intro xs ys us vs b h1 h2 h
    cases h1 with
    | nil => cases ks <;> simp [eqCells] at h
    | @cons x u xs us hx tx =>
      cases h2 with
      | nil => cases ks <;> cases xs <;> simp [eqCells] at h
      | @cons y v ys vs hy ty =>
        have gen : ∀ b1 b2, eqCell k x y = some b1 → eqCells ks xs ys = some b2 → b = (b1 && b2) →
            (u :: us).length = (k :: ks).length ∧ (v :: vs).length = (k :: ks).length ∧ (∀ (i : Nat) (k' : CK), (k :: ks)[i]? = some k' → ∀ x y, (u :: us)[i]? = some x → (v :: vs)[i]? = some y → CK.ok k' x y) ∧ sameAll (u :: us) (v :: vs) = b := by
          intro b1 b2 e1 e2 e3
          obtain ⟨g1, g2⟩ := cell hx hy e1
          obtain ⟨l1, l2, l3, l4⟩ := ih tx ty e2
          refine ⟨by simp [l1], by simp [l2], ?_, by simp [sameAll, g2, l4, e3]⟩
          intro i k' hk x' y' hx' hy'
          cases i with
          | zero => simp at hk hx' hy'; subst hk hx' hy'; exact g1
          | succ i => exact l3 i k' (by simpa using hk) x' y' (by simpa using hx') (by simpa using hy')
        by_cases hnil : ks = [] ∧ xs = [] ∧ ys = []
        · obtain ⟨rfl, rfl, rfl⟩ := hnil
          have h' : eqCell k x y = some b := by simpa [eqCells] using h
          exact gen b true h' rfl (by simp)
        · have h' : (match eqCell k x y with
            | some b => match eqCells ks xs ys with
              | some c => some (b && c)
              | none => none
            | none => none) = some b := by
            rw [← h]
            cases ks <;> cases xs <;> cases ys <;> first | rfl | exact absurd ⟨rfl, rfl, rfl⟩ hnil
          split at h'
          · rename_i b1 e1
            split at h'
            · rename_i b2 e2
              simp only [Option.some.injEq] at h'
              exact gen b1 b2 e1 e2 h'.symm
            · cases h'
          · cases h'

theorem eqk_ok (hP : TabOk P tb) {T : TypeId} {ti : TI} {ks : List CK} (hT : Tab.get tb T = some ti) (h : (∃ n z fs, ti = .struct n z fs (some ks)) ∨ (∃ n z, ti = .array n z (some ks))) : EqOk P T ks := by
  have := hP T ti hT
  rcases h with ⟨n, z, fs, rfl⟩ | ⟨n, z, rfl⟩
  · obtain ⟨_, _, _, _, _, _, _, _, _, _, _, h⟩ := this
    exact h ks rfl
  · obtain ⟨_, _, _, _, _, _, _, _, _, _, _, _, _, _, _, h⟩ := this
    exact h ks rfl

/-- What '==' and '!=' say of nil slices. -/
theorem isNil_rel {x : SV} {v : Value} {b : Bool} (hx : SVRel w μ ok x v) (h : isNil x = some b) : ∃ A n c, v = .slice A n c ∧ A.isNone = b := by
  cases x <;> simp only [isNil] at h <;> try (cases h; done)
  · cases h; exact ⟨none, 0, 0, hx, rfl⟩
  · subst h
    obtain ⟨h1, h2⟩ := hx
    cases b with
    | true => exact ⟨none, 0, 0, h2, rfl⟩
    | false => obtain ⟨a, n, c, rfl⟩ := h2; exact ⟨some a, n, c, rfl, rfl⟩

theorem isNil_rel' {x : SV} {v : Value} {b : Bool} (hx : AVRel w μ ok (.one x) v) (h : isNil x = some b) : ∃ A n c, v = .slice A n c ∧ A.isNone = b := by
  have hj : x ≠ .junk := by intro e; subst e; simp [isNil] at h
  rw [AVRel.eq1 hj] at hx
  exact isNil_rel hx h
theorem run_equal_bool {T : TypeId} (hT : P.underlying T = some .bool) (b c : Bool) : (Op.equal T (.bool b) (.bool c)).run P w = .ok (b == c) w := by
  have h : ∀ d, (Op.equalIn (d + 1) T (.bool b) (.bool c)).run P w = .ok (b == c) w := by
    intro d
    simp only [Op.equalIn, underlying, Sem.run_bind, run_program, Result.andThen_ok, hT, Sem.run_pure]
  exact h 9999
theorem run_equal_nil {T e : TypeId} (hT : P.underlying T = some (.slice e)) (A : Option Addr) (n c : Nat) : (Op.equal T (.slice A n c) (.slice none 0 0)).run P w = .ok A.isNone w := by
  have h : ∀ d, (Op.equalIn (d + 1) T (.slice A n c) (.slice none 0 0)).run P w = .ok A.isNone w := by
    intro d
    cases A <;> simp only [Op.equalIn, underlying, Sem.run_bind, run_program, Result.andThen_ok, hT, Sem.run_pure, Option.isNone]
  exact h 9999

theorem evBin_agg {op : BinOp} {T : TypeId} {xs ys : List SV} {us vs : List Value} {r : AV} {ox oy : Operand} {ks : List CK} (h1 : All2 (SVRel w μ ok) xs us) (h2 : All2 (SVRel w μ ok) ys vs) (hE : EqOk P T ks)
    (h : (match eqCells ks xs ys, op with
        | some b, .eql => some (true, AV.one (.bool b))
        | some b, .neq => some (true, .one (.bool (!b)))
        | _, _ => none) = some (true, r)) :
    ∃ z, (do eqGuard op T ox oy (.agg us.toArray) (.agg vs.toArray); binOp op T (.agg us.toArray) (.agg vs.toArray) : Sem Value).run P w = .ok z w ∧ r.isOwner = false ∧ AVRel w μ ok r z := by
  split at h
  all_goals (try (cases h; done))
  all_goals
    rename_i b he
    cases h
    obtain ⟨g1, g2, g3, g4⟩ := eqCells_rel h1 h2 he
    obtain ⟨e1, e2⟩ := hE w us vs g1 g2 g3
    rw [g4] at e1
    have hg : ∀ op, (eqGuard op T ox oy (.agg us.toArray) (.agg vs.toArray)).run P w = .ok () w := by
      intro op; unfold eqGuard; cases op <;> simp [e2]
  · exact ⟨.bool b, by simp only [Sem.run_bind, hg, Result.andThen_ok, binOp, e1, Sem.run_pure], rfl, rfl⟩
  · exact ⟨.bool (!b), by simp only [Sem.run_bind, hg, Result.andThen_ok, binOp, e1, Sem.run_pure], rfl, rfl⟩

theorem evBin_rel (hP : TabOk P tb) {op : BinOp} {T : TypeId} {x y : AV} {u v : Value} {r : AV} {ox oy : Operand}
    (hx : AVRel w μ ok x u) (hy : AVRel w μ ok y v) (h : evBin tb op T x y = some (true, r)) :
    ∃ z, (do eqGuard op T ox oy u v; binOp op T u v : Sem Value).run P w = .ok z w ∧ r.isOwner = false ∧ AVRel w μ ok r z := by
  unfold evBin at h
  split at h
  · -- numbers
    rename_i k a k' b
    obtain ⟨rfl, ha⟩ := (hx : SVRel w μ ok (.int k a) u)
    obtain ⟨rfl, hb⟩ := (hy : SVRel w μ ok (.int k' b) v)
    have hg : (eqGuard op T ox oy (.int k a) (.int k' b)).run P w = .ok () w := by
      unfold eqGuard; cases op <;> simp
    split at h
    · simp only [Option.some.injEq, Prod.mk.injEq, decide_eq_true_eq] at h
      obtain ⟨h0, rfl⟩ := h
      refine ⟨_, ?_, rfl, rfl, wrap_has _ _⟩
      simp only [Sem.run_bind, hg, Result.andThen_ok, binOp, Op.shift]
      simp [show ¬ b < 0 by omega]
    · simp only [Option.some.injEq, Prod.mk.injEq, decide_eq_true_eq] at h
      obtain ⟨h0, rfl⟩ := h
      refine ⟨_, ?_, rfl, rfl, fdiv_has ha _⟩
      simp only [Sem.run_bind, hg, Result.andThen_ok, binOp, Op.shift]
      simp [show ¬ b < 0 by omega]
    · cases hk : ikEq k k' with
      | false => simp [hk] at h
      | true =>
        obtain rfl := ikEq_eq hk
        simp only [hk, cond_true] at h
        split at h
        · rename_i g sv he
          simp only [Option.some.injEq, Prod.mk.injEq] at h
          obtain ⟨rfl, rfl⟩ := h
          obtain ⟨z, hz, hs⟩ := evInt_rel (μ := μ) (ok := ok) (w := w) ha hb he
          refine ⟨z, ?_, rfl, ?_⟩
          · simp only [Sem.run_bind, hg, Result.andThen_ok]; exact hz T w
          · by_cases hj : sv = .junk
            · subst hj; trivial
            · rw [AVRel.eq1 hj]; exact hs
        · cases h
  · -- bools
    rename_i b c
    rw [show u = .bool b from hx, show v = .bool c from hy]
    have hg : (eqGuard op T ox oy (.bool b) (.bool c)).run P w = .ok () w := by
      unfold eqGuard; cases op <;> simp
    split at h
    all_goals (try (cases h; done))
    all_goals
      rename_i z hT
      obtain ⟨i, d, zv, _, _, h3, _, _, _, _, _, h8, _⟩ := hP T _ hT
      rw [h8 z rfl] at h3
      cases h
    · exact ⟨.bool (b == c), by simp only [Sem.run_bind, hg, Result.andThen_ok, binOp, run_equal_bool h3, Sem.run_pure], rfl, rfl⟩
    · exact ⟨.bool (!(b == c)), by simp only [Sem.run_bind, hg, Result.andThen_ok, binOp, run_equal_bool h3, Sem.run_pure], rfl, rfl⟩
  · -- texts
    rename_i b c
    obtain ⟨rfl, _⟩ := (hx : SVRel w μ ok (.str b) u)
    obtain ⟨rfl, _⟩ := (hy : SVRel w μ ok (.str c) v)
    have hg : (eqGuard op T ox oy (.string b) (.string c)).run P w = .ok () w := by
      unfold eqGuard; cases op <;> simp
    split at h
    · cases h; exact ⟨.bool (b.toList == c.toList), by simp [hg, binOp, Op.stringOp], rfl, rfl⟩
    · cases h; exact ⟨.bool (!(b.toList == c.toList)), by simp [hg, binOp, Op.stringOp], rfl, rfl⟩
    · cases h
  · -- nil slices
    split at h
    all_goals (try (cases h; done))
    all_goals
      rename_i b e t bytes hn hT
      cases h
      obtain ⟨A, n, c, rfl, hA⟩ := isNil_rel' hx hn
      obtain ⟨i, ei, ze, _, _, _, h4, _⟩ := hP T _ hT
      rw [show v = .slice none 0 0 from hy]
      have hg : ∀ op, (eqGuard op T ox oy (.slice A n c) (.slice none 0 0)).run P w = .ok () w := by
        intro op; unfold eqGuard; cases op <;> simp
    · exact ⟨.bool b, by simp only [Sem.run_bind, hg, Result.andThen_ok, binOp, run_equal_nil h4, Sem.run_pure, hA], rfl, rfl⟩
    · exact ⟨.bool (!b), by simp only [Sem.run_bind, hg, Result.andThen_ok, binOp, run_equal_nil h4, Sem.run_pure, hA], rfl, rfl⟩
  · -- structs
    rename_i xs ys
    obtain ⟨us, rfl, h1⟩ := hx
    obtain ⟨vs, rfl, h2⟩ := hy
    split at h
    · rename_i n z fs ks hT
      exact evBin_agg h1 h2 (eqk_ok hP hT (.inl ⟨_, _, _, rfl⟩)) h
    · rename_i n z ks hT
      exact evBin_agg h1 h2 (eqk_ok hP hT (.inr ⟨_, _, rfl⟩)) h
    · cases h
  · cases h
end

end Go.AM
