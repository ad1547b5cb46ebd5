/- An abstract machine over the model's own code: len, slicing, closures, what is handed over. -/
import Derived.Test.YtoeijiackpanoaaAmMap
set_option linter.unusedVariables false
set_option linter.unusedSimpArgs false
namespace Go.AM

section
variable {P : Program} {mine : Cx} {w0 : World} {st : St} {a : Act} {w : World} {μ : Locs} {ok : OK} {tb : Tab}

theorem TRel.take {okf : Nat → Prop} {t : Ty} {xs : List t.D} {A : Option Addr} {n c : Nat} (h : TRel w okf (.sl t) xs [.slice A n c]) (m : Nat) (hm : m ≤ xs.length) : TRel w okf (.sl t) (xs.take m) [.slice A m c] := by
  obtain ⟨A', c', e, h1, h2, h3⟩ := h
  simp only [List.cons.injEq, Value.slice.injEq, and_true] at e
  obtain ⟨rfl, rfl, rfl⟩ := e
  have hl : (xs.take m).length = m := by simp; omega
  refine ⟨A, c, by rw [hl], by rw [hl]; omega, h2, ?_⟩
  rcases h3 with ⟨rfl, rfl, rfl⟩ | ⟨b, o, ⟨sp, rfl, hsp⟩, hb, h3⟩
  · exact .inl ⟨rfl, by simp, rfl⟩
  · refine .inr ⟨b, o, ⟨sp, rfl, fun hne => hsp (by intro e; simp [e] at hne)⟩, fun hne => hb (by intro e; simp [e] at hne), fun j hj => ?_⟩
    obtain ⟨cs, g1, g2⟩ := h3 j (by omega)
    exact ⟨cs, by simpa using g1, g2⟩

theorem TRel.drop {okf : Nat → Prop} {t : Ty} {xs : List t.D} {A : Option Addr} {n c : Nat} (h : TRel w okf (.sl t) xs [.slice A n c]) (m : Nat) (hm : m ≤ xs.length) :
    TRel w okf (.sl t) (xs.drop m) [.slice (if c = m then A else A.map (·.add (m * t.size))) (n - m) (c - m)] := by
  obtain ⟨A', c', e, h1, h2, h3⟩ := h
  simp only [List.cons.injEq, Value.slice.injEq, and_true] at e
  obtain ⟨rfl, rfl, rfl⟩ := e
  have hl : (xs.drop m).length = xs.length - m := by simp
  refine ⟨_, c - m, by rw [hl], by rw [hl]; omega, by omega, ?_⟩
  rcases h3 with ⟨rfl, rfl, rfl⟩ | ⟨b, o, ⟨sp, rfl, hsp⟩, hb, h3⟩
  · exact .inl ⟨by split <;> rfl, by simp, by omega⟩
  · by_cases hx0 : xs = []
    · subst hx0
      obtain rfl : m = 0 := by simpa using hm
      exact .inr ⟨b, o, ⟨sp, by simp [Addr.add], fun hne => absurd rfl hne⟩, fun hne => absurd rfl hne, fun j hj => by simp at hj⟩
    obtain rfl := hsp hx0
    by_cases hc : c = m
    · subst hc
      have hx : xs.drop c = [] := by rw [List.drop_eq_nil_iff]; omega
      exact .inr ⟨b, o, ⟨none, by simp, fun _ => rfl⟩, fun hne => absurd hx hne, fun j hj => by rw [hx] at hj; simp at hj⟩
    · refine .inr ⟨b, o + m * t.size, ⟨none, by simp [hc, add_none], fun _ => rfl⟩, fun hne => hb (by intro e; simp [e] at hne), fun j hj => ?_⟩
      obtain ⟨cs, g1, g2⟩ := h3 (m + j) (by omega)
      refine ⟨cs, by simpa using g1, ?_⟩
      have : o + (m + j) * t.size = o + m * t.size + j * t.size := by rw [Nat.add_mul, Nat.add_assoc]
      rwa [this] at g2

theorem lenSl_rel (F : Facts mine w0 st a.tmps w μ ok) {v : SV} {x : Value} {n : Nat} (hv : SVRel w μ ok v x) (h : lenSl st v = some n) : ∃ A c, x = .slice A n c ∧ n ≤ 9223372036854775807 := by
  cases v <;> simp only [lenSl] at h <;> try (cases h; done)
  · cases h; exact ⟨none, 0, hv, by omega⟩
  · rename_i fr t nl xs
    cases h
    obtain ⟨A, c, e, h1, h2, _⟩ := hv.1
    simp only [List.cons.injEq, and_true] at e
    exact ⟨A, c, e, by omega⟩
  · rename_i s m
    cases m with
    | none =>
      simp only at h
      split at h
      · rename_i fr t xs hs
        cases h
        have ho := F.owns s
        rw [hs] at ho
        obtain ⟨rfl, _⟩ := hv
        exact ⟨_, _, by unfold slv; rw [Option.getD_none, ho.1], by have := ho.1; have := ho.2.1; have := ho.2.2.1; omega⟩
      · cases h
    | some m =>
      cases h
      obtain ⟨rfl, hm, hb⟩ := hv
      exact ⟨_, _, rfl, by have := hm _ rfl; omega⟩

theorem len_gives (hP : TabOk P tb) (F : Facts mine w0 st a.tmps w μ ok) {ty : TypeId} {ts : List TypeId} {x : AV} {xv : Value} {v : AV} (hx : AVRel w μ ok x xv)
    (h : evBuiltin tb st .len ts [x] = some (true, v)) : Gives P mine w0 st a w μ ok (Builtin.len_ ts.toArray ty #[xv]) v := by
  unfold evBuiltin at h
  cases x with
  | one x =>
    simp only at h
    split at h
    · rename_i T r
      split at h
      · rename_i z hT
        split at h
        · rename_i s
          cases h
          obtain ⟨rfl, hs⟩ := (hx : SVRel w μ ok (.str s) xv)
          obtain ⟨i, d, zv, _, _, h3, _, _, _, _, _, _, h9⟩ := hP T _ hT
          rw [h9 _ rfl] at h3
          refine Gives.pure F (x := .int .i64 s.size) ?_ rfl ⟨rfl, ?_⟩
          · simp [Builtin.len_, underlying, h3, goInt]
          · unfold IntKind.has IntKind.min IntKind.max; simp [IntKind.signed, IntKind.bits]; omega
        · cases h
      · rename_i e t b hT
        split at h
        · rename_i n hn
          cases h
          have hj : x ≠ .junk := by intro e; subst e; cases hn
          obtain ⟨A, c, rfl, hb⟩ := lenSl_rel F (one_of hj hx) hn
          obtain ⟨i, ei, ze, _, _, _, h4, _⟩ := hP T _ hT
          refine Gives.pure F (x := .int .i64 n) ?_ rfl ⟨rfl, ?_⟩
          · simp [Builtin.len_, underlying, h4, goInt]
          · unfold IntKind.has IntKind.min IntKind.max; simp [IntKind.signed, IntKind.bits]; omega
        · cases h
      · rename_i kt vt hT
        split at h
        · rename_i fr es hg
          simp only [Option.some.injEq, Prod.mk.injEq, decide_eq_true_eq] at h
          obtain ⟨hlen, rfl⟩ := h
          have hj : x ≠ .junk := by intro e; subst e; cases hg
          have hm := getMap_rel F (one_of hj hx) hg
          obtain ⟨i, kT, vT, vi, zv, _, _, _, h4, _⟩ := hP T _ hT
          refine Gives.pure F (x := .int .i64 es.length) ?_ rfl ⟨rfl, ?_⟩
          · rcases hm with ⟨rfl, rfl⟩ | ⟨b, rfl, arr, clock, hb, hents⟩
            · simp [Builtin.len_, underlying, h4, goInt]
            · have := hents.length
              simp at this
              simp [Builtin.len_, underlying, h4, goInt, getObj, Sem.run, hb, this]
          · unfold IntKind.has IntKind.min IntKind.max; simp [IntKind.signed, IntKind.bits]; omega
        · cases h
      · cases h
    · cases h
  | agg cs => cases h
  | tup l => cases h
  | own cs => cases h
  | arr f t xs => cases h
  | mapO f kt vt es => cases h
  | gho o => cases h

theorem min_gives (F : Facts mine w0 st a.tmps w μ ok) {ty : TypeId} {ts : Array TypeId} {k k' : IntKind} {m n : Int} {xv yv : Value} (hx : AVRel w μ ok (.one (.int k m)) xv) (hy : AVRel w μ ok (.one (.int k' n)) yv)
    (hk : ikEq k k' = true) : Gives P mine w0 st a w μ ok (Builtin.min_ ts ty #[xv, yv]) (.one (.int k (minI m n))) := by
  obtain rfl := ikEq_eq hk
  obtain ⟨rfl, h1⟩ := (hx : SVRel w μ ok (.int k m) xv)
  obtain ⟨rfl, h2⟩ := (hy : SVRel w μ ok (.int k n) yv)
  refine Gives.pure F (x := .int k (minI m n)) ?_ rfl ⟨rfl, ?_⟩
  · simp [Builtin.min_, Builtin.min2, minI]
  · unfold minI; split <;> assumption

theorem max_gives (F : Facts mine w0 st a.tmps w μ ok) {ty : TypeId} {ts : Array TypeId} {k k' : IntKind} {m n : Int} {xv yv : Value} (hx : AVRel w μ ok (.one (.int k m)) xv) (hy : AVRel w μ ok (.one (.int k' n)) yv)
    (hk : ikEq k k' = true) : Gives P mine w0 st a w μ ok (Builtin.max_ ts ty #[xv, yv]) (.one (.int k (maxI m n))) := by
  obtain rfl := ikEq_eq hk
  obtain ⟨rfl, h1⟩ := (hx : SVRel w μ ok (.int k m) xv)
  obtain ⟨rfl, h2⟩ := (hy : SVRel w μ ok (.int k n) yv)
  refine Gives.pure F (x := .int k (maxI m n)) ?_ rfl ⟨rfl, ?_⟩
  · simp [Builtin.max_, Builtin.max2, maxI]
  · unfold maxI; split <;> assumption

def OptRel (w : World) (μ : Locs) (ok : OK) : Option AV → Option Value → Prop
  | none, none => True
  | some x, some v => AVRel w μ ok x v
  | _, _ => False

theorem optI_rel {x : Option AV} {v : Option Value} {r : Option Int} (h : optI x = some r) (hx : OptRel w μ ok x v) : (r = none ∧ v = none) ∨ ∃ k n, r = some n ∧ v = some (.int k n) := by
  unfold optI at h
  split at h
  · cases h; cases v with
    | none => exact .inl ⟨rfl, rfl⟩
    | some v => exact hx.elim
  · rename_i k n
    cases h; cases v with
    | none => exact hx.elim
    | some v =>
      obtain ⟨rfl, _⟩ := (hx : SVRel w μ ok (.int k n) v)
      exact .inr ⟨k, n, rfl, rfl⟩
  · cases h

theorem slice_gives (hP : TabOk P tb) (F : Facts mine w0 st a.tmps w μ ok) {T : TypeId} {x : AV} {xv : Value} {lo hi mx : Option AV} {lov hiv mxv : Option Value} {v : AV} (hx : AVRel w μ ok x xv)
    (hlo : OptRel w μ ok lo lov) (hhi : OptRel w μ ok hi hiv) (hmx : mx = none → mxv = none) (h : evSlice tb st T x lo hi mx = some (true, v)) : Gives P mine w0 st a w μ ok (Instr.sliceAt T xv lov hiv mxv) v := by
  unfold evSlice at h
  split at h
  · rename_i e t bytes fr t' nl xs lo' hi' hT hlo' hhi'
    obtain rfl := hmx rfl
    cases hz : Nat.beq t.size t'.size with
    | false => simp [hz] at h
    | true =>
      have hz' : t.size = t'.size := Nat.eq_of_beq_eq_true hz
      simp only [hz, cond_true] at h
      obtain ⟨i, ei, ze, _, _, _, h4, h5, h6, _⟩ := hP T _ hT
      have hx' : SVRel w μ ok (.sl fr t' nl xs) xv := hx
      have ht := hx'.1
      obtain ⟨A, c, e', g1, g2, g3⟩ := ht
      simp only [List.cons.injEq, and_true] at e'
      subst e'
      have ht := hx'.1
      have h6' : ei.size = t'.size := by rw [h6, hz']
      rcases optI_rel hlo' hlo with ⟨rfl, rfl⟩ | ⟨kl, l, rfl, rfl⟩ <;> rcases optI_rel hhi' hhi with ⟨rfl, rfl⟩ | ⟨kh, hh, rfl, rfl⟩
      · cases h
      · simp only [Option.some.injEq, Prod.mk.injEq, Bool.and_eq_true, decide_eq_true_eq] at h
        obtain ⟨⟨k1, k2⟩, rfl⟩ := h
        refine Gives.pure F (x := .slice A hh.toNat c) ?_ rfl ⟨ht.take hh.toNat (by omega), trivial⟩
        have : hh ≤ (c : Int) := by omega
        simp [Instr.sliceAt, underlying, h4, Instr.slice, Instr.sliceBounds, Instr.sliceBound, asIntOf, k1, this, Go.sizeOf, typeInfo, h5]
        cases A <;> simp [Addr.add]
      · simp only [Option.some.injEq, Prod.mk.injEq, Bool.and_eq_true, decide_eq_true_eq] at h
        obtain ⟨⟨k1, k2⟩, rfl⟩ := h
        refine Gives.pure F (x := .slice (if c = l.toNat then A else A.map (·.add (l.toNat * t'.size))) (xs.length - l.toNat) (c - l.toNat)) ?_ rfl ⟨ht.drop l.toNat (by omega), trivial⟩
        simp [Instr.sliceAt, underlying, h4, Instr.slice, Instr.sliceBounds, Instr.sliceBound, asIntOf, k1, k2, Go.sizeOf, typeInfo, h5, h6']
      · simp only [Option.some.injEq, Prod.mk.injEq, Bool.and_eq_true, decide_eq_true_eq] at h
        obtain ⟨⟨⟨k1, k2⟩, k3⟩, rfl⟩ := h
        have ht2 := (ht.take hh.toNat (by omega)).drop l.toNat (by simp; omega)
        refine Gives.pure F (x := .slice (if c = l.toNat then A else A.map (·.add (l.toNat * t'.size))) (hh.toNat - l.toNat) (c - l.toNat)) ?_ rfl ⟨ht2, trivial⟩
        have h1 : 0 ≤ hh := by omega
        have h2 : hh ≤ (c : Int) := by omega
        have h3 : l ≤ max hh 0 := by omega
        simp [Instr.sliceAt, underlying, h4, Instr.slice, Instr.sliceBounds, Instr.sliceBound, asIntOf, k1, h1, h2, h3, Go.sizeOf, typeInfo, h5, h6']
  · rename_i e t bytes s hh hT hlo' hhi'
    obtain rfl := hmx rfl
    obtain ⟨i, ei, ze, _, _, _, h4, h5, h6, _⟩ := hP T _ hT
    rcases optI_rel hlo' hlo with ⟨_, rfl⟩ | ⟨kl, l, e1, _⟩
    case inr => cases e1
    rcases optI_rel hhi' hhi with ⟨e1, _⟩ | ⟨kh, hh', e1, rfl⟩
    case inl => cases e1
    cases e1
    split at h
    · rename_i fr t' xs hs
      simp only [Option.some.injEq, Prod.mk.injEq, Bool.and_eq_true, decide_eq_true_eq] at h
      obtain ⟨⟨k1, k2⟩, rfl⟩ := h
      have hx' : SVRel w μ ok (.hot s none) xv := hx
      obtain ⟨rfl, _, hb⟩ := hx'
      have ho := F.owns s
      rw [hs] at ho
      refine Gives.pure F (x := slv (μ s) (some hh.toNat)) ?_ rfl ⟨rfl, (by intro m hm; cases hm; have := ho.1; omega), hb⟩
      have h2 : hh ≤ ((μ s).cap : Int) := by have := ho.1; have := ho.2.1; omega
      simp [Instr.sliceAt, underlying, h4, Instr.slice, Instr.sliceBounds, Instr.sliceBound, asIntOf, k1, h2, Go.sizeOf, typeInfo, h5, slv]
      cases (μ s).b <;> simp [Addr.add]
    · cases h
  · rename_i e t bytes s l hi' hT hlo' hhi'
    obtain rfl := hmx rfl
    obtain ⟨i, ei, ze, _, _, _, h4, h5, h6, _⟩ := hP T _ hT
    rcases optI_rel hlo' hlo with ⟨e1, _⟩ | ⟨kl, l', e1, rfl⟩
    case inl => cases e1
    cases e1
    split at h
    · rename_i fr t' xs hs
      cases hz : Nat.beq t.size t'.size with
      | false => rw [hz] at h; cases h
      | true =>
      have hz' : t.size = t'.size := Nat.eq_of_beq_eq_true hz
      rw [hz] at h
      simp only [cond_true, Option.some.injEq, Prod.mk.injEq, Bool.and_eq_true, decide_eq_true_eq] at h
      obtain ⟨⟨⟨k1, k2⟩, k3⟩, rfl⟩ := h
      have hx' : SVRel w μ ok (.hot s none) xv := hx
      obtain ⟨rfl, _, hb⟩ := hx'
      have ho := F.owns s
      rw [hs] at ho
      obtain ⟨g1, g2, g3, g4⟩ := (ho : ArrRel w (ok fr) (μ s) t' xs)
      have h6' : ei.size = t'.size := by rw [h6, hz']
      rcases g4 with ⟨_, hxs, _⟩ | ⟨b, cur, E, j1, j2, j3, j4⟩
      · subst hxs
        simp at k2 k3
        omega
      · have hc : ¬ (μ s).cap = l.toNat := by omega
        rcases optI_rel hhi' hhi with ⟨e1, rfl⟩ | ⟨kh, hh, e1, rfl⟩
        · subst e1
          simp only [Option.getD_none] at k2 k3 ⊢
          refine Gives.pure F (x := .slice (some ⟨b, l.toNat * t'.size, none⟩) (xs.length - l.toNat) ((μ s).cap - l.toNat)) ?_ rfl ⟨b, j1, by simp, by omega, by omega⟩
          have h3 : l ≤ (xs.length : Int) := by omega
          simp [Instr.sliceAt, underlying, h4, Instr.slice, Instr.sliceBounds, Instr.sliceBound, asIntOf, k1, h3, Go.sizeOf, typeInfo, h5, h6', slv, j1, g1, hc, add_none]
        · subst e1
          simp only [Option.getD_some] at k2 k3 ⊢
          refine Gives.pure F (x := .slice (some ⟨b, l.toNat * t'.size, none⟩) (hh.toNat - l.toNat) ((μ s).cap - l.toNat)) ?_ rfl ⟨b, j1, rfl, by omega, by omega⟩
          have h1 : 0 ≤ hh := by omega
          have h2 : hh ≤ ((μ s).cap : Int) := by omega
          have h3 : l ≤ max hh 0 := by omega
          simp [Instr.sliceAt, underlying, h4, Instr.slice, Instr.sliceBounds, Instr.sliceBound, asIntOf, k1, h1, h2, h3, Go.sizeOf, typeInfo, h5, h6', slv, j1, g1, hc, add_none]
    · cases h
  · cases h

/-! ### Closures -/
theorem tyOf_rel {cs : List SV} {vs : List Value} {f : Bool} {t : Ty} {x : t.D} (hT : ∀ b, ok true b → ok false b) (h : All2 (SVRel w μ ok) cs vs) (ht : tyOf cs = some (f, ⟨t, x⟩)) : TRel w (ok f) t x vs := by
  have up : ∀ (f g : Bool) b, ok (f && g) b → ok (f && g) b := fun _ _ _ h => h
  have weak : ∀ (f g : Bool) b, (g = true → f = true) → ok f b → ok g b := by
    intro f g b hg hb
    cases g with
    | true => rw [hg rfl] at hb; exact hb
    | false => cases f with
      | true => exact hT b hb
      | false => exact hb
  induction cs generalizing vs f t x with
  | nil => simp [tyOf] at ht
  | cons c cs ih =>
    cases h with
    | @cons _ v _ vs hv hvs =>
      cases cs with
      | nil =>
        cases hvs
        cases c <;> simp only [tyOf] at ht <;> try (cases ht; done)
        · cases ht; exact (congrArg (fun z => [z]) (show v = _ from hv))
        · cases ht; obtain ⟨rfl, h2⟩ := hv; exact ⟨rfl, h2⟩
        · cases ht; obtain ⟨rfl, h2⟩ := hv; exact ⟨rfl, h2⟩
        · cases ht; exact hv.1
      | cons c2 cs =>
        cases c <;> simp only [tyOf] at ht <;> try (cases ht; done)
        all_goals
          split at ht
          · rename_i f' t' x' he
            have hr := ih hvs he
            cases ht
            first
              | (refine ⟨[v], vs, rfl, ?_, hr⟩
                 first
                   | exact (congrArg (fun z => [z]) (show v = _ from hv))
                   | (obtain ⟨rfl, h2⟩ := hv; exact ⟨rfl, h2⟩))
              | (refine ⟨[v], vs, rfl, ?_, ?_⟩
                 · exact TRel.mono (fun _ _ => rfl) (fun b hb => weak _ _ b (by intro e; simp at e; exact e.1) hb) hv.1
                 · exact TRel.mono (fun _ _ => rfl) (fun b hb => weak _ _ b (by intro e; simp at e; exact e.2) hb) hr)
          · cases ht

theorem capOf_rel (hT : ∀ b, ok true b → ok false b) {x : AV} {v : Value} {c : Cap} (hx : AVRel w μ ok x v) (h : capOf x = some c) : CapRel w μ ok c v := by
  unfold capOf at h
  split at h
  · cases h; exact hx
  · cases h
    obtain ⟨b, o, cs, e, h1, h2, h3⟩ := (hx : SVRel w μ ok (.rp _ _ _ 0) v)
    exact ⟨b, o, cs, e, h1, h2, h3⟩
  · rename_i y _ _
    split at h
    · rename_i f t z he
      cases h
      have hj : y ≠ .junk := by intro e; subst e; simp [tyOf] at he
      have hy := one_of hj hx
      unfold CapRel
      cases y <;> simp only [tyOf] at he <;> try (cases he; done)
      all_goals cases he
      · exact hy
      · exact hy
      · exact hy
      · exact ⟨hy.1, trivial⟩
    · cases h
  · cases h

theorem capsOf_rel (hT : ∀ b, ok true b → ok false b) {l : List AV} {vs : List Value} {cs : List Cap} (h : All2 (AVRel w μ ok) l vs) (hc : capsOf l = some cs) : All2 (CapRel w μ ok) cs vs := by
  induction h generalizing cs with
  | nil => simp only [capsOf, Option.some.injEq] at hc; subst hc; exact .nil
  | cons hx _ ih =>
    simp only [capsOf] at hc
    split at hc
    · rename_i c cs' h1 h2
      cases hc
      exact .cons (capOf_rel hT hx h1) (ih h2)
    · cases hc

theorem capVal_rel {c : Cap} {v : Value} (h : CapRel w μ ok c v) : AVRel w μ ok (capVal c) v := by
  unfold CapRel at h
  cases c with
  | ref s off => exact h
  | ptrD f t x => exact h
  | valD f t x =>
    have hne : ∀ y ∈ enc t f x, (y ≠ .junk) ∧ ∀ f c, y ≠ .fn f c := by
      clear h
      intro y hy
      induction t with
      | int k => simp [enc] at hy; subst hy; simp
      | bool => simp [enc] at hy; subst hy; simp
      | str => simp [enc] at hy; subst hy; simp
      | unit => simp [enc] at hy
      | sl t _ => simp [enc] at hy; subst hy; simp
      | pair a b iha ihb =>
        rcases List.mem_append.1 hy with hy | hy
        · exact iha _ hy
        · exact ihb _ hy
    simp only [capVal] at *
    split at h
    · rename_i y he
      have hy := hne y (by simp [he])
      rw [AVRel.eq1 hy.1, SVRel.eq0 hy.2]
      exact h
    · rename_i hn
      obtain ⟨vs, e, hh⟩ := h
      have : AVRel w μ ok (.agg (enc t f x)) v := ⟨vs, e, hh.imp_mem fun a b ha hab => by rw [SVRel.eq0 (hne a ha).2]; exact hab⟩
      exact this
end

end Go.AM
