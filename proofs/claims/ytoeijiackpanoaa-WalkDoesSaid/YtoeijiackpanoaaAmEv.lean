/- An abstract machine over the model's own code: operands, and what is read of memory, agree with the machine. -/
import Derived.Test.YtoeijiackpanoaaAmPut
set_option linter.unusedVariables false
set_option linter.unusedSimpArgs false
namespace Go.AM

section
variable {mine : Cx} {w0 : World} {st : St} {a : Act} {w : World} {μ : Locs} {ok : OK}

theorem cv_rel (v : Value) : AVRel w μ ok (cv v) v := by
  have one : ∀ v : Value, AVRel w μ ok (.one (cvS v)) v := by
    intro v
    by_cases h : cvS v = .junk
    · rw [h]; trivial
    · rw [AVRel.eq1 h]; exact cvS_rel h
  unfold cv
  split
  · rename_i cs
    cases hj : (cs.toList.map cvS).any SV.isJunk with
    | true => trivial
    | false =>
      refine ⟨cs.toList, by simp, ?_⟩
      have : ∀ l : List Value, (l.map cvS).any SV.isJunk = false → All2 (SVRel w μ ok) (l.map cvS) l := by
        intro l
        induction l with
        | nil => intro _; exact .nil
        | cons x l ih =>
          intro h
          simp only [List.map_cons, List.any_cons, Bool.or_eq_false_iff] at h
          refine .cons (cvS_rel fun e => ?_) (ih h.2)
          rw [e] at h; simp [SV.isJunk] at h
      exact this _ hj
  · exact one _

theorem eval_tmp (a : Act) (t : Nat) : a.eval (.tmp t) = a.tmps.getD t undef := rfl

theorem rdSlot_rel (F : Facts mine w0 st a.tmps w μ ok) (t : Nat) : AVRel w μ ok (rdSlot st t) (a.tmps.getD t undef) := by
  have h := F.slots t
  unfold rdSlot
  cases hs : st.at t with
  | own cs => rw [hs] at h; obtain ⟨b, h1, h2⟩ := h; exact ⟨b, h1, h2⟩
  | mapO f kt vt es => rw [hs] at h; obtain ⟨b, h1, h2⟩ := h; exact ⟨b, h1, h2⟩
  | gho o => trivial
  | arr fr ty xs =>
    rw [hs] at h
    have ho := F.owns t
    rw [show st.ow t = .arr fr ty xs by unfold St.ow; rw [hs]; rfl] at ho
    have h1 := ho.2.1
    have h2 := ho.2.2.1
    exact ⟨h, (fun m hm => by cases hm), by omega⟩
  | one x => rw [hs] at h; exact h
  | agg cs => rw [hs] at h; exact h
  | tup l => rw [hs] at h; exact h

theorem rd_rel (F : Facts mine w0 st a.tmps w μ ok) (x : Operand) : AVRel w μ ok (rd st x) (a.eval x) := by
  cases x with
  | tmp t => exact rdSlot_rel F t
  | const v => exact cv_rel v
  | func f => exact ⟨[], rfl, .nil⟩
  | global g => trivial

theorem rd_one (F : Facts mine w0 st a.tmps w μ ok) {x : Operand} {v : SV} (h : rd st x = .one v) (hj : v ≠ .junk) : SVRel w μ ok v (a.eval x) := by
  have := rd_rel F x
  rw [h, AVRel.eq1 hj] at this
  exact this
theorem rd_bool (F : Facts mine w0 st a.tmps w μ ok) {x : Operand} {b : Bool} (h : rd st x = .one (.bool b)) : a.eval x = .bool b := rd_one F h (by simp)
theorem rd_int (F : Facts mine w0 st a.tmps w μ ok) {x : Operand} {k : IntKind} {n : Int} (h : rd st x = .one (.int k n)) : a.eval x = .int k n ∧ k.has n := rd_one F h (by simp)
theorem rd_agg (F : Facts mine w0 st a.tmps w μ ok) {x : Operand} {cs : List SV} (h : rd st x = .agg cs) : ∃ vs : List Value, a.eval x = .agg vs.toArray ∧ All2 (SVRel w μ ok) cs vs := by
  have := rd_rel F x
  rw [h] at this
  exact this
/-- What a slot is read as owns nothing. -/
theorem rdSlot_notOwner (st : St) (t : Nat) : (rdSlot st t).isOwner = false := by
  unfold rdSlot
  cases st.at t <;> rfl
theorem cv_notOwner (v : Value) : (cv v).isOwner = false := by
  unfold cv
  split
  · rename_i cs; cases (cs.toList.map cvS).any SV.isJunk <;> rfl
  · rfl
theorem rd_notOwner (st : St) (x : Operand) : (rd st x).isOwner = false := by
  cases x with
  | tmp t => exact rdSlot_notOwner st t
  | const v => exact cv_notOwner v
  | func f => rfl
  | global g => rfl

theorem cellsOf_rel {x : AV} {v : Value} {cs : List SV} (h : AVRel w μ ok x v) (hc : cellsOf x = some cs) : All2 (SVRel w μ ok) cs v.cells.toList := by
  cases x with
  | one y =>
    by_cases hy : y = .junk
    · subst hy; cases hc
    · rw [AVRel.eq1 hy] at h
      have hc' : cs = [y] := by cases y <;> first | exact absurd rfl hy | (simp only [cellsOf, Option.some.injEq] at hc; exact hc.symm)
      subst hc'
      have h1 := h.one
      have : v.cells.toList = [v] := by cases v <;> first | rfl | cases h1
      rw [this]
      exact .cons h .nil
  | agg c =>
    simp only [cellsOf, Option.some.injEq] at hc
    subst hc
    obtain ⟨vs, rfl, hh⟩ := h
    simpa [Value.cells] using hh
  | tup l => cases hc
  | own c => cases hc
  | arr f t xs => cases hc
  | mapO f kt vt es => cases hc
  | gho o => cases hc
end

/-! ### Typed data -/
theorem enc_rel {w : World} {μ : Locs} {ok : OK} : ∀ {t : Ty} {fr : Bool} {x : t.D} {vs : List Value}, TRel w (ok fr) t x vs → All2 (SVRel w μ ok) (enc t fr x) vs
  | .int k, fr, x, vs, h => by obtain ⟨rfl, h⟩ := h; exact .cons ⟨rfl, h⟩ .nil
  | .bool, fr, x, vs, h => by rw [show vs = _ from h]; exact .cons rfl .nil
  | .str, fr, x, vs, h => by obtain ⟨rfl, h⟩ := h; exact .cons ⟨rfl, h⟩ .nil
  | .unit, fr, x, vs, h => by rw [show vs = _ from h]; exact .nil
  | .pair a b, fr, x, vs, h => by
    obtain ⟨u, v, rfl, h1, h2⟩ := h
    exact (enc_rel h1).append (enc_rel h2)
  | .sl t, fr, x, vs, h => by
    have h' := h
    obtain ⟨A, c, rfl, _⟩ := h'
    exact .cons ⟨h, trivial⟩ .nil

theorem castL_eq {a b : Ty} {xs : List a.D} {ys : List b.D} (h : Ty.castL a b xs = some ys) : ∃ e : a = b, e ▸ xs = ys := by
  unfold Ty.castL at h
  split at h
  · rename_i e
    exact ⟨e, by simpa using h⟩
  · cases h

theorem ikEq_eq {a b : IntKind} (h : ikEq a b = true) : a = b := by
  cases a <;> cases b <;> first | rfl | cases h

theorem dec_rel {w : World} {μ : Locs} {ok : OK} (hT : ∀ b, ok true b → ok false b) : ∀ {t : Ty} {cs : List SV} {vs : List Value} {x : t.D} {f : Bool} {r : List SV},
    All2 (SVRel w μ ok) cs vs → dec t cs = some (x, f, r) → ∃ u v, vs = u ++ v ∧ TRel w (ok f) t x u ∧ All2 (SVRel w μ ok) r v := by
  have up : ∀ f g b, ok f b → (f = true → g = true) → ok f b := fun f g b h _ => h
  have weak : ∀ (f g : Bool) b, (g = true → f = true) → ok f b → ok g b := by
    intro f g b hg hb
    cases g with
    | true => rw [hg rfl] at hb; exact hb
    | false => cases f with
      | true => exact hT b hb
      | false => exact hb
  intro t
  induction t with
  | unit =>
    intro cs vs x f r h hd
    simp only [dec, Option.some.injEq, Prod.mk.injEq] at hd
    obtain ⟨_, rfl, rfl⟩ := hd
    exact ⟨[], vs, rfl, rfl, h⟩
  | int k =>
    intro cs vs x f r h hd
    cases h with
    | nil => simp [dec] at hd
    | @cons c v cs vs hv ht =>
      cases c <;> simp only [dec] at hd <;> try (cases hd; done)
      rename_i k' n
      cases hk : ikEq k k' with
      | false => simp [hk] at hd
      | true =>
        obtain rfl := ikEq_eq hk
        simp only [hk, cond_true, Option.some.injEq, Prod.mk.injEq] at hd
        obtain ⟨rfl, rfl, rfl⟩ := hd
        obtain ⟨rfl, hh⟩ := hv
        exact ⟨[_], vs, rfl, ⟨rfl, hh⟩, ht⟩
  | bool =>
    intro cs vs x f r h hd
    cases h with
    | nil => simp [dec] at hd
    | @cons c v cs vs hv ht =>
      cases c <;> simp only [dec] at hd <;> try (cases hd; done)
      simp only [Option.some.injEq, Prod.mk.injEq] at hd
      obtain ⟨rfl, rfl, rfl⟩ := hd
      exact ⟨[_], vs, rfl, by rw [show v = _ from hv]; rfl, ht⟩
  | str =>
    intro cs vs x f r h hd
    cases h with
    | nil => simp [dec] at hd
    | @cons c v cs vs hv ht =>
      cases c <;> simp only [dec] at hd <;> try (cases hd; done)
      simp only [Option.some.injEq, Prod.mk.injEq] at hd
      obtain ⟨rfl, rfl, rfl⟩ := hd
      obtain ⟨rfl, hh⟩ := hv
      exact ⟨[_], vs, rfl, ⟨rfl, hh⟩, ht⟩
  | pair a b iha ihb =>
    intro cs vs x f r h hd
    simp only [dec] at hd
    split at hd
    · rename_i x1 f1 r1 h1
      split at hd
      · rename_i x2 f2 r2 h2
        simp only [Option.some.injEq, Prod.mk.injEq] at hd
        obtain ⟨rfl, rfl, rfl⟩ := hd
        obtain ⟨u, v, rfl, t1, h'⟩ := iha h h1
        obtain ⟨u2, v2, rfl, t2, h''⟩ := ihb h' h2
        refine ⟨u ++ u2, v2, by simp, ⟨u, u2, rfl, ?_, ?_⟩, h''⟩
        · exact TRel.mono (fun _ _ => rfl) (fun b hb => weak f1 _ b (by intro e; simp at e; exact e.1) hb) t1
        · exact TRel.mono (fun _ _ => rfl) (fun b hb => weak f2 _ b (by intro e; simp at e; exact e.2) hb) t2
      · cases hd
    · cases hd
  | sl t ih =>
    intro cs vs x f r h hd
    cases h with
    | nil => simp [dec] at hd
    | @cons c v cs vs hv ht =>
      cases c <;> simp only [dec] at hd <;> try (cases hd; done)
      · simp only [Option.some.injEq, Prod.mk.injEq] at hd
        obtain ⟨rfl, rfl, rfl⟩ := hd
        have hv' : v = .slice none 0 0 := hv
        subst hv'
        exact ⟨[_], vs, rfl, ⟨none, 0, rfl, by simp, by omega, .inl ⟨rfl, rfl, rfl⟩⟩, ht⟩
      · rename_i fr t' nl xs
        split at hd
        · rename_i ys hc
          obtain ⟨rfl, e⟩ := castL_eq hc
          simp only [Option.some.injEq, Prod.mk.injEq] at hd
          obtain ⟨rfl, rfl, rfl⟩ := hd
          obtain rfl : xs = ys := e
          exact ⟨[_], vs, rfl, hv.1, ht⟩
        · cases hd

theorem decAll_rel {w : World} {μ : Locs} {ok : OK} (hT : ∀ b, ok true b → ok false b) {t : Ty} {cs : List SV} {vs : List Value} {x : t.D} {f : Bool}
    (h : All2 (SVRel w μ ok) cs vs) (hd : decAll t cs = some (x, f)) : TRel w (ok f) t x vs := by
  unfold decAll at hd
  split at hd
  · rename_i x' f' he
    simp only [Option.some.injEq, Prod.mk.injEq] at hd
    obtain ⟨rfl, rfl⟩ := hd
    obtain ⟨u, v, rfl, ht, h'⟩ := dec_rel hT h he
    cases h'
    simpa using ht
  · cases hd

/-! ### Types' table -/
def Agg : TypeDesc → Bool
  | .struct _ => true
  | .array _ _ => true
  | _ => false

def CK.ok : CK → Value → Value → Prop
  | .int k, x, y => ∃ a b, x = .int k a ∧ y = .int k b
  | .bool, x, y => ∃ a b, x = .bool a ∧ y = .bool b
  | .str, x, y => ∃ a b, x = .string a ∧ y = .string b
def CK.same : Value → Value → Bool
  | .int _ a, .int _ b => a == b
  | .bool a, .bool b => a == b
  | .string a, .string b => a == b
  | _, _ => false
/-- Two structs' cells: all alike. -/
def sameAll : List Value → List Value → Bool
  | [], [] => true
  | x :: xs, y :: ys => CK.same x y && sameAll xs ys
  | _, _ => false
/-- '==' of a type goes cell by cell. -/
def EqOk (P : Program) (T : TypeId) (ks : List CK) : Prop :=
  ∀ (w : World) (xs ys : List Value), xs.length = ks.length → ys.length = ks.length → (∀ (i : Nat) (k : CK), ks[i]? = some k → ∀ x y, xs[i]? = some x → ys[i]? = some y → CK.ok k x y) →
    (Op.equal T (.agg xs.toArray) (.agg ys.toArray)).run P w = .ok (sameAll xs ys) w ∧ P.eqGuardType P.depth T = false

/-- Keys of a type are found by their cells. -/
def KeyOk (P : Program) (kT : TypeId) (kt : Ty) : Prop :=
  kt.flat = true ∧
  (∀ (w w' : World) (okf : Nat → Prop) (x : kt.D) (v : Value) (b : Bool), VRel w okf kt x v → (Instr.checkKey b 10000 kT v).run P w' = .ok () w') ∧
  ∃ kd, P.underlying kT = some kd ∧
   ((∀ (w : World) (okf : Nat → Prop) (x y : kt.D) (u v : Value), VRel w okf kt x u → VRel w okf kt y v → Instr.sameNow kd u v = some (eqD kt x y)) ∨
    ((∀ u v, Instr.sameNow kd u v = none) ∧ ∀ (w w' : World) (okf : Nat → Prop) (x y : kt.D) (u v : Value), VRel w okf kt x u → VRel w okf kt y v → (Op.equal kT u v).run P w' = .ok (eqD kt x y) w'))

def TIOk (P : Program) (T : TypeId) : TI → Prop
  | .map kt vt => ∃ i kT vT vi zv, P.info? T = some i ∧ i.size = 1 ∧ i.zero = some (.map none) ∧ P.underlying T = some (.map kT vT) ∧ KeyOk P kT kt ∧
      P.info? vT = some vi ∧ vi.zero = some zv ∧ ∀ w ok, VRel w ok vt vt.dflt zv
  | .scal z => ∃ i d zv, P.info? T = some i ∧ i.size = 1 ∧ P.underlying T = some d ∧ Agg d = false ∧ i.zero = some zv ∧ cv zv = .one z ∧ z ≠ .junk ∧ (∀ k n, z = .int k n → d = .int k) ∧ (∀ b, z = .bool b → d = .bool) ∧ (∀ s, z = .str s → d = .string)
  | .struct n z fs eqk => ∃ (i : TypeInfo) (F : Array Field) (zv : Value), P.info? T = some i ∧ i.size = n ∧ P.underlying T = some (.struct F) ∧ i.zero = some zv ∧ cv zv = .agg z ∧ z.length = n ∧ F.size = fs.length ∧
      (∀ (j o m : Nat) (b : Bool), fs[j]? = some (o, m, b) → ∃ (f : Field) (fi : TypeInfo) (fd : TypeDesc), F[j]? = some f ∧ f.offset = o ∧ P.info? f.type = some fi ∧ fi.size = m ∧ 0 < m ∧ P.underlying f.type = some fd ∧ Agg fd = b) ∧
      (∀ ks, eqk = some ks → EqOk P T ks)
  | .array n z eqk => ∃ i zv e ei ed, P.info? T = some i ∧ i.size = n ∧ P.underlying T = some (.array n e) ∧ i.zero = some zv ∧ cv zv = .agg z ∧ z.length = n ∧
      P.info? e = some ei ∧ ei.size = 1 ∧ P.underlying e = some ed ∧ Agg ed = false ∧ (∀ ks, eqk = some ks → EqOk P T ks)
  | .slice e t bytes => ∃ i ei ze, P.info? T = some i ∧ i.size = 1 ∧ i.zero = some (.slice none 0 0) ∧ P.underlying T = some (.slice e) ∧ P.info? e = some ei ∧ ei.size = t.size ∧ ei.bytes = bytes ∧
      ei.zero = some ze ∧ (∀ w ok, TRel w ok t t.dflt ze.cells.toList) ∧ 0 < bytes ∧ 0 < t.size

def TabOk (P : Program) (tb : Tab) : Prop := ∀ T i, Tab.get tb T = some i → TIOk P T i

theorem TabOk.nil (P : Program) : TabOk P [] := fun T i h => by cases h
theorem TabOk.cons {P : Program} {T : TypeId} {i : TI} {tb : Tab} (h : TIOk P T i) (t : TabOk P tb) : TabOk P ((T, i) :: tb) := by
  intro T' i' h'
  simp only [Tab.get] at h'
  cases hb : Nat.beq T T' with
  | true =>
    rw [hb] at h'
    simp only [cond_true, Option.some.injEq] at h'
    obtain rfl : T = T' := Nat.eq_of_beq_eq_true hb
    subst h'; exact h
  | false =>
    rw [hb] at h'
    exact t T' i' h'

section
variable {P : Program} {w : World} {tb : Tab} {T : TypeId}
theorem TIOk.sizeOf {ti : TI} (h : TIOk P T ti) : (sizeOf T).run P w = .ok ti.size w := by
  cases ti with
  | map kt vt => obtain ⟨i, kT, vT, vi, zv, h1, h2, _⟩ := h; simp [Go.sizeOf, typeInfo, h1, h2, TI.size]
  | scal z => obtain ⟨i, d, zv, h1, h2, _⟩ := h; simp [Go.sizeOf, typeInfo, h1, h2, TI.size]
  | struct n z fs eqk => obtain ⟨i, F, zv, h1, h2, _⟩ := h; simp [Go.sizeOf, typeInfo, h1, h2, TI.size]
  | array n z eqk => obtain ⟨i, zv, e, ei, ed, h1, h2, _⟩ := h; simp [Go.sizeOf, typeInfo, h1, h2, TI.size]
  | slice e t b => obtain ⟨i, ei, ze, h1, h2, _⟩ := h; simp [Go.sizeOf, typeInfo, h1, h2, TI.size]
theorem TIOk.isAgg {ti : TI} (h : TIOk P T ti) : (isAgg T).run P w = .ok ti.isAgg w := by
  cases ti with
  | map kt vt => obtain ⟨i, kT, vT, vi, zv, h1, h2, h3, h4, _⟩ := h; simp [Go.isAgg, underlying, h4, TI.isAgg]
  | scal z =>
    obtain ⟨i, d, zv, h1, h2, h3, h4, _⟩ := h
    simp only [Go.isAgg, underlying, Sem.run_bind, run_program, Result.andThen_ok, h3, Sem.run_pure, TI.isAgg]
    cases d <;> first | rfl | cases h4
  | struct n z fs eqk => obtain ⟨i, F, zv, h1, h2, h3, _⟩ := h; simp [Go.isAgg, underlying, h3, TI.isAgg]
  | array n z eqk => obtain ⟨i, zv, e, ei, ed, h1, h2, h3, _⟩ := h; simp [Go.isAgg, underlying, h3, TI.isAgg]
  | slice e t b => obtain ⟨i, ei, ze, h1, h2, h3, h4, _⟩ := h; simp [Go.isAgg, underlying, h4, TI.isAgg]
theorem TIOk.zero {ti : TI} (h : TIOk P T ti) : ∃ zv, (zeroValue T).run P w = .ok zv w ∧ ∀ w μ ok, All2 (SVRel w μ ok) ti.zero zv.cells.toList := by
  cases ti with
  | map kt vt =>
    obtain ⟨i, kT, vT, vi, zv, h1, h2, h3, _⟩ := h
    refine ⟨_, by simp [zeroValue, typeInfo, h1, h3]; rfl, fun w μ ok => ?_⟩
    exact .cons rfl .nil
  | scal z =>
    obtain ⟨i, d, zv, h1, h2, h3, h4, h5, h6, h7, _⟩ := h
    refine ⟨zv, by simp [zeroValue, typeInfo, h1, h5], fun w μ ok => ?_⟩
    have := cv_rel (w := w) (μ := μ) (ok := ok) zv
    rw [h6] at this
    exact cellsOf_rel this (by cases z <;> first | rfl | exact absurd rfl h7)
  | struct n z fs eqk =>
    obtain ⟨i, F, zv, h1, h2, h3, h4, h5, _⟩ := h
    refine ⟨zv, by simp [zeroValue, typeInfo, h1, h4], fun w μ ok => ?_⟩
    have := cv_rel (w := w) (μ := μ) (ok := ok) zv
    rw [h5] at this
    obtain ⟨vs, rfl, hh⟩ := this
    simpa [Value.cells, TI.zero] using hh
  | array n z eqk =>
    obtain ⟨i, zv, e, ei, ed, h1, h2, h3, h4, h5, _⟩ := h
    refine ⟨zv, by simp [zeroValue, typeInfo, h1, h4], fun w μ ok => ?_⟩
    have := cv_rel (w := w) (μ := μ) (ok := ok) zv
    rw [h5] at this
    obtain ⟨vs, rfl, hh⟩ := this
    simpa [Value.cells, TI.zero] using hh
  | slice e t b =>
    obtain ⟨i, ei, ze, h1, h2, h3, _⟩ := h
    refine ⟨_, by simp [zeroValue, typeInfo, h1, h3]; rfl, fun w μ ok => ?_⟩
    exact .cons rfl .nil
end

/-! ### Cells that are loaded -/
theorem add_none (b o n : Nat) : (⟨b, o, none⟩ : Addr).add n = ⟨b, o + n, none⟩ := by
  unfold Addr.add; split
  · rename_i h; subst h; rfl
  · rfl

theorem run_loadCellsFrom {P : Program} {w : World} (b o : Nat) : ∀ (vs : List Value) (i : Nat) (acc : Array Value), (∀ q (h : q < vs.length), w.cell? ⟨b, o + (i + q), none⟩ = some vs[q]) →
    (loadCellsFrom ⟨b, o, none⟩ i vs.length acc).run P w = .ok (acc ++ vs.toArray) w := by
  intro vs
  induction vs with
  | nil => intro i acc _; simp [loadCellsFrom]
  | cons v vs ih =>
    intro i acc h
    have h0 := h 0 (by simp)
    simp only [List.length_cons, loadCellsFrom, Sem.run_bind, add_none, run_load]
    simp only [Nat.add_zero, List.getElem_cons_zero] at h0
    rw [h0]
    simp only [Result.andThen_ok]
    rw [ih (i + 1) (acc.push v) (fun q hq => by
      have := h (q + 1) (by simp; omega)
      simpa [Nat.add_assoc, Nat.add_comm 1 q] using this)]
    congr 1
    apply Array.ext'
    simp

theorem run_loadCells {P : Program} {w : World} {b o : Nat} {vs : List Value} (h : Cells w b o vs) : (loadCells ⟨b, o, none⟩ vs.length).run P w = .ok vs.toArray w := by
  unfold loadCells
  rw [run_loadCellsFrom b o vs 0 #[] (fun q hq => by simpa using h q hq)]
  simp

theorem asVal_rel {w : World} {μ : Locs} {ok : OK} {f : Bool} {cs : List SV} {vs : List Value} {v : AV} (h : All2 (SVRel w μ ok) cs vs) (hv : asVal f cs = some v) :
    v.isOwner = false ∧ ((f = true ∧ AVRel w μ ok v (.agg vs.toArray)) ∨ (f = false ∧ ∃ x, vs = [x] ∧ AVRel w μ ok v x)) := by
  unfold asVal at hv
  split at hv
  · cases hv
    exact ⟨rfl, .inl ⟨rfl, vs, rfl, h⟩⟩
  · rename_i x
    cases hv
    cases h with
    | cons hx ht =>
      cases ht
      refine ⟨rfl, .inr ⟨rfl, _, rfl, ?_⟩⟩
      by_cases hj : x = .junk
      · subst hj; trivial
      · rw [AVRel.eq1 hj]; exact hx
  · cases hv

theorem run_loadAt {P : Program} {w : World} {tb : Tab} (hP : TabOk P tb) {T : TypeId} {ti : TI} (hT : Tab.get tb T = some ti) {b o : Nat} {vs : List Value} (hn : vs.length = ti.size) (h : Cells w b o vs)
    (hone : ti.isAgg = false → ∃ x, vs = [x]) :
    (Instr.loadAt T (.pointer (some ⟨b, o, none⟩))).run P w = .ok (if ti.isAgg then .agg vs.toArray else vs.headD undef) w := by
  have h1 := (hP T ti hT).isAgg (w := w)
  have h2 := (hP T ti hT).sizeOf (w := w)
  unfold Instr.loadAt Instr.sureAddr loadVar
  simp only [Sem.run_bind, Sem.run_pure, Result.andThen_ok, h1]
  cases hf : ti.isAgg with
  | true =>
    simp only [if_true, Sem.run_bind, h2, Result.andThen_ok]
    rw [← hn, run_loadCells h]; simp
  | false =>
    obtain ⟨x, rfl⟩ := hone hf
    have := h 0 (by simp)
    simp at this
    simp [run_load, this]

theorem selInt_rel {w : World} {μ : Locs} {ok : OK} : ∀ {cs : List SV} {vs : List Value} {k : IntKind} {l : List Int}, All2 (SVRel w μ ok) cs vs → selInt cs = some (k, l) →
    vs = l.map (Value.int k) ∧ ∀ n ∈ l, k.has n := by
  intro cs
  induction cs with
  | nil => intro vs k l h hs; simp [selInt] at hs
  | cons c cs ih =>
    intro vs k l h hs
    cases h with
    | @cons _ v _ vs hv ht =>
      cases c <;> try (simp [selInt] at hs; done)
      rename_i k1 n
      obtain ⟨rfl, hn⟩ := hv
      cases cs with
      | nil =>
        simp only [selInt, Option.some.injEq, Prod.mk.injEq] at hs
        obtain ⟨rfl, rfl⟩ := hs
        cases ht
        exact ⟨rfl, by simpa using hn⟩
      | cons c2 cs =>
        simp only [selInt] at hs
        split at hs
        · rename_i k' l' he
          cases hk : ikEq k1 k' with
          | false => simp [hk] at hs
          | true =>
            obtain rfl := ikEq_eq hk
            simp only [hk, cond_true, Option.some.injEq, Prod.mk.injEq] at hs
            obtain ⟨rfl, rfl⟩ := hs
            obtain ⟨e, hh⟩ := ih ht he
            refine ⟨by rw [e]; rfl, ?_⟩
            intro m hm
            rcases List.mem_cons.1 hm with rfl | hm
            · exact hn
            · exact hh m hm
        · cases hs

section
variable {mine : Cx} {w0 : World} {st : St} {tm : Array Value} {w : World} {μ : Locs} {ok : OK}

theorem cell_block {w : World} {b o : Nat} {c : Array Value} {E : TypeId} {fz : Nat × Nat} (h : w.heap[b]? = some (.cells c E fz)) : w.cell? ⟨b, o, none⟩ = c[o]? := by
  simp [World.cell?, h]

theorem ownCells (F : Facts mine w0 st tm w μ ok) {s : Nat} {cs : List SV} (h : st.ow s = .own cs) : ∃ b c E, (μ s).b = some b ∧ w.heap[b]? = some (.cells c E (0, 0)) ∧ All2 (SVRel w μ ok) cs c.toList := by
  have := F.owns s
  rw [h] at this
  exact this

/-- Cells behind a pointer. -/
theorem ldCells_rel (F : Facts mine w0 st tm w μ ok) {p : SV} {pv : Value} (hp : SVRel w μ ok p pv) {n : Nat} {cs : List SV} (h : ldCells st p n = some cs) (hn : cs.length = n) :
    ∃ b o vs, pv = .pointer (some ⟨b, o, none⟩) ∧ vs.length = n ∧ Cells w b o vs ∧ All2 (SVRel w μ ok) cs vs := by
  have fin : ∀ (l : List SV) (us : List Value) (off : Nat), All2 (SVRel w μ ok) l us → cs = (l.drop off).take n → All2 (SVRel w μ ok) cs ((us.drop off).take n) ∧ ((us.drop off).take n).length = n := by
    intro l us off hl hc
    have h1 := (hl.drop off).take n
    rw [← hc] at h1
    exact ⟨h1, by rw [← h1.length]; exact hn⟩
  cases p with
  | ptr s off =>
    simp only [ldCells] at h
    split at h
    · rename_i cs' hs
      simp only [Option.some.injEq] at h
      obtain ⟨b, c, E, h1, h2, h3⟩ := ownCells F hs
      obtain ⟨b', h1', rfl⟩ := hp
      rw [h1] at h1'; cases h1'
      obtain ⟨g1, g2⟩ := fin _ _ off h3 h.symm
      refine ⟨b, off, _, rfl, g2, fun q hq => ?_, g1⟩
      rw [cell_block h2]
      rw [g2] at hq
      simp only [List.getElem_take, List.getElem_drop, Array.getElem_toList]
      have hlen : off + q < c.size := by
        have := g2; simp at this; omega
      simp [hlen]
    · cases h
  | rp fr t x off =>
    simp only [ldCells, Option.some.injEq] at h
    obtain ⟨b, o, us, rfl, hb, ht, hc⟩ := hp
    obtain ⟨g1, g2⟩ := fin _ _ off (enc_rel ht) h.symm
    refine ⟨b, o + off, _, rfl, g2, fun q hq => ?_, g1⟩
    rw [g2] at hq
    have hlen : off + q < us.length := by have := g2; simp at this; omega
    have := hc (off + q) hlen
    simpa [Nat.add_assoc] using this
  | hptr s sz i off =>
    simp only [ldCells] at h
    split at h
    · rename_i fr t xs hs
      cases hz : Nat.beq sz t.size with
      | false => simp [hz] at h
      | true =>
        have hz' : sz = t.size := Nat.eq_of_beq_eq_true hz
        simp only [hz, cond_true, Option.some.injEq] at h
        obtain ⟨b, h1, rfl, h3, h4⟩ := hp
        have ho := F.owns s
        rw [hs] at ho
        obtain ⟨g1, g2, g3, g4⟩ := ho
        rcases g4 with ⟨g4, _⟩ | ⟨b', c, E, k1, k2, k3, k4⟩
        · rw [h1] at g4; cases g4
        · rw [h1] at k1; cases k1
          have hi : i.toNat < xs.length := by omega
          obtain ⟨us, t1, t2⟩ := k4 i.toNat hi
          have hx : xs.getD i.toNat t.dflt = xs[i.toNat] := by simp [List.getD_eq_getElem?_getD, hi]
          rw [hx] at h
          obtain ⟨e1, e2⟩ := fin _ _ off (enc_rel (μ := μ) t1) h.symm
          refine ⟨b, i.toNat * sz + off, _, rfl, e2, fun q hq => ?_, e1⟩
          rw [e2] at hq
          rw [cell_block k2]
          have hlen : off + q < us.length := by have := e2; simp at this; omega
          have := t2 (off + q) hlen
          simp only [List.getElem_take, List.getElem_drop]
          rw [hz', Nat.add_assoc]; exact this
    · cases h
  | aptr s base len idx =>
    simp only [ldCells] at h
    split at h
    · rename_i cs' hs
      cases h1 : Nat.beq n 1 with
      | false => simp [h1] at h
      | true =>
        have hn1 : n = 1 := Nat.eq_of_beq_eq_true h1
        simp only [h1, cond_true] at h
        split at h
        · rename_i k l he
          cases hl : Nat.beq l.length len with
          | false => simp [hl] at h
          | true =>
            have hl' : l.length = len := Nat.eq_of_beq_eq_true hl
            simp only [hl, cond_true, Option.some.injEq] at h
            subst h
            obtain ⟨b, c, E, g1, g2, g3⟩ := ownCells F hs
            obtain ⟨b', g1', rfl, h0, hi⟩ := hp
            rw [g1] at g1'; cases g1'
            obtain ⟨e1, e2⟩ := selInt_rel ((g3.drop base).take len) he
            have hidx : idx.toNat < l.length := by omega
            refine ⟨b, base + idx.toNat, [.int k (l.getD idx.toNat 0)], rfl, by simp [hn1], fun q hq => ?_, .cons ⟨rfl, ?_⟩ .nil⟩
            · have hq0 : q = 0 := by simpa using hq
              subst hq0
              rw [cell_block g2]
              have hm : ((c.toList.drop base).take len)[idx.toNat]? = some (.int k (l.getD idx.toNat 0)) := by
                rw [e1]; simp [List.getD_eq_getElem?_getD, hidx]
              rw [List.getElem?_take, if_pos (by omega), List.getElem?_drop] at hm
              simpa using hm
            · apply e2
              simp [List.getD_eq_getElem?_getD, hidx]
        · cases h
    · cases h
  | junk => cases h
  | bool b => cases h
  | int k n => cases h
  | str s => cases h
  | nilp => cases h
  | nils => cases h
  | nilf => cases h
  | nilm => cases h
  | sm f kt vt es => cases h
  | mref s => cases h
  | sl fr t nl xs => cases h
  | hot s n => cases h
  | fn f c => cases h
  | cut s sz lo hi => cases h
end

end Go.AM
