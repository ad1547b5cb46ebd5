/- An abstract machine over the model's own code: each operation that makes a value agrees with the machine. -/
import Derived.Test.YtoeijiackpanoaaAmEv
set_option linter.unusedVariables false
set_option linter.unusedSimpArgs false
namespace Go.AM

def ArrRel (w : World) (okf : Nat → Prop) (l : Loc) (t : Ty) (xs : List t.D) : Prop :=
  l.len = xs.length ∧ l.len ≤ l.cap ∧ l.cap ≤ 9223372036854775807 ∧
      ((l.b = none ∧ xs = [] ∧ l.cap = 0) ∨
        ∃ b c E, l.b = some b ∧ w.heap[b]? = some (.cells c E (0, 0)) ∧ l.cap * t.size ≤ c.size ∧
          ∀ j (h : j < xs.length), ∃ cs, TRel w okf t xs[j] cs ∧ ∀ q (hq : q < cs.length), c[j * t.size + q]? = some cs[q])

/-- A block that a new owner may have. -/
def FreshB (mine : Cx) (w0 : World) (st : St) (w : World) (μ : Locs) (ok : OK) (b : Nat) : Prop :=
  b < w.heap.size ∧ (w0.heap.size ≤ b ∨ mine.mine b) ∧ ¬ ok false b ∧ ∀ i, (st.ow i).isOwner = true → (μ i).b ≠ some b

def NewRel (mine : Cx) (w0 : World) (st : St) (w : World) (μ : Locs) (ok : OK) : AV → Value → Prop
  | .own cs, x => ∃ b c E, x = .pointer (some ⟨b, 0, none⟩) ∧ w.heap[b]? = some (.cells c E (0, 0)) ∧ All2 (SVRel w μ ok) cs c.toList ∧ FreshB mine w0 st w μ ok b
  | .arr fr t xs, x => ∃ l, x = slv l none ∧ ArrRel w (ok fr) l t xs ∧ ∀ b, l.b = some b → FreshB mine w0 st w μ ok b
  | .mapO fr kt vt es, x => ∃ b, x = .map (some b) ∧ MapRel w (ok fr) kt vt es b ∧ FreshB mine w0 st w μ ok b
  | v, x => AVRel w μ ok v x

section
variable {mine : Cx} {w0 : World} {st : St} {w : World} {μ : Locs} {ok : OK}

theorem NewRel.of_av {v : AV} {x : Value} (ho : v.isOwner = false) (h : AVRel w μ ok v x) : NewRel mine w0 st w μ ok v x := by
  cases v <;> first | exact h | cases ho

theorem Facts.putNew {tm : Array Value} (F : Facts mine w0 st tm w μ ok) (d : Nat) {v : AV} {x : Value} (h : NewRel mine w0 st w μ ok v x) :
    ∃ μ', Facts mine w0 (st.put d v) (tm.setIfInBounds d x) w μ' ok := by
  cases hg : (st.at d).isGho with
  | true =>
    have : st.put d v = st := by unfold St.put; rw [hg]; rfl
    rw [this]; exact ⟨μ, F.putG hg⟩
  | false =>
  by_cases hd : d < st.length
  case neg =>
    cases ho : v.isOwner with
    | false =>
      have h' : AVRel w μ ok v x := by cases v <;> first | exact h | cases ho
      exact ⟨μ, F.putV d h' ho⟩
    | true =>
      have F1 := (F.putV d (v := .one .junk) (x := x) trivial rfl).forget d
      have e1 : st.put d (.one .junk) = st := by
        unfold St.put
        rw [hg, St.at_out _ _ (by omega)]
        exact List.set_eq_of_length_le (by omega)
      have e2 : st.put d v = st.kill d := by
        unfold St.put
        rw [hg, ho, Bool.or_true]
        exact List.set_eq_of_length_le (by rw [St.length_kill]; omega)
      rw [e1] at F1
      rw [e2]; exact ⟨μ, F1⟩
  case pos =>
  cases v with
  | own cs =>
    obtain ⟨b, c, E, rfl, h1, h2, g1, g2, g3, g4⟩ := h
    refine ⟨_, F.putO d ⟨some b, 0, 0⟩ rfl hg hd ⟨b, by rw [upd_self], rfl⟩ ⟨b, c, E, by rw [upd_self], h1, ?_⟩ ?_⟩
    · refine (h2.kill d).imp_mem fun y v hy hyv => hyv.mono (fun _ _ _ => rfl) (fun _ _ h => h) fun s hs => upd_ne μ _ fun e => ?_
      obtain ⟨z, _, rfl⟩ := List.mem_map.1 hy
      rw [e, SV.kill_self] at hs; cases hs
    · intro b' hb'
      cases hb'
      exact ⟨g1, g2, g3, fun i _ => g4 i⟩
  | arr fr t xs =>
    obtain ⟨l, rfl, h1, h2⟩ := h
    refine ⟨_, F.putO d l rfl hg hd ?_ ?_ fun b hb => ⟨(h2 b hb).1, (h2 b hb).2.1, (h2 b hb).2.2.1, fun i _ => (h2 b hb).2.2.2 i⟩⟩
    · show slv l none = slv (upd μ d l d) none
      rw [upd_self]
    · show OwnRel w (upd μ d l) ok d (.arr fr t xs)
      unfold OwnRel
      rw [upd_self]; exact h1
  | mapO fr kt vt es =>
    obtain ⟨b, rfl, h1, g1, g2, g3, g4⟩ := h
    refine ⟨_, F.putO d ⟨some b, 0, 0⟩ rfl hg hd ⟨b, by rw [upd_self], rfl⟩ ⟨b, by rw [upd_self], h1⟩ ?_⟩
    intro b' hb'
    cases hb'
    exact ⟨g1, g2, g3, fun i _ => g4 i⟩
  | one y => exact ⟨μ, F.putV d h rfl⟩
  | agg cs => exact ⟨μ, F.putV d h rfl⟩
  | tup l => exact ⟨μ, F.putV d h rfl⟩
  | gho o => exact h.elim

def none1 (_ : Nat) : Prop := False

/-- Nothing that was there has turned; what is stable now was, or is new; a new owner's row is new. -/
structure Grow (w : World) (ok : OK) (w1 : World) (ok1 : OK) (v : AV) (x : Value) : Prop where
  fr : Fr none1 w w1
  up : ∀ f b, ok f b → ok1 f b
  down : ∀ f b, ok1 f b → ok f b ∨ w.heap.size ≤ b
  new : v.isOwner = true → ∀ b, ((x = .pointer (some ⟨b, 0, none⟩)) ∨ (∃ n c, x = .slice (some ⟨b, 0, none⟩) n c) ∨ x = .map (some b)) → w.heap.size ≤ b

theorem Grow.refl {v : AV} {x : Value} (ho : v.isOwner = false) : Grow w ok w ok v x :=
  ⟨⟨rfl, rfl, rfl, Nat.le_refl _, fun _ _ _ => rfl⟩, fun _ _ h => h, fun _ _ h => .inl h, fun h => by rw [ho] at h; cases h⟩

/-- A new block is laid. -/
theorem Fr.alloc {m : Nat → Prop} (h : Fr m w0 w) (o : Obj) : Fr m w0 (w.alloc o) :=
  ⟨h.os, h.tape, h.output, by have := h.size; show _ ≤ (w.heap.push o).size; rw [Array.size_push]; omega, fun k hk hm => by
    have := h.size
    rw [RowKit.Below.heap_alloc _ _ _ (by omega)]; exact h.block k hk hm⟩
theorem heap_at_new (w : World) (o : Obj) : (w.alloc o).heap[w.heap.size]? = some o := by
  show (w.heap.push o)[w.heap.size]? = _
  simp
theorem alloc_size (w : World) (o : Obj) : (w.alloc o).heap.size = w.heap.size + 1 := by show (w.heap.push o).size = _; simp

theorem Facts.alloc {tm : Array Value} (F : Facts mine w0 st tm w μ ok) (o : Obj) : Facts mine w0 st tm (w.alloc o) μ ok :=
  F.step (fun b hb => RowKit.Below.heap_alloc _ _ _ (F.okB b hb)) (fun i b h1 h2 => RowKit.Below.heap_alloc _ _ _ (F.ownB i b h1 h2).1) (by rw [alloc_size]; omega) (fun _ _ h => h)
    (fun b hb => by have := F.okB b hb; rw [alloc_size]; omega) F.okT F.okF (fun i b h1 h2 => (F.ownB i b h1 h2).2.2) F.okS (F.fr.alloc o)

theorem Facts.freshNew {tm : Array Value} (F : Facts mine w0 st tm w μ ok) (o : Obj) : FreshB mine w0 st (w.alloc o) μ ok w.heap.size :=
  ⟨by rw [alloc_size]; omega, .inl F.fr.size, fun h => by have := F.okB _ h; omega, fun i hi hb => by have := (F.ownB i _ hi hb).1; omega⟩

theorem Grow.alloc (o : Obj) {v : AV} {x : Value} (hx : ∀ b, ((x = .pointer (some ⟨b, 0, none⟩)) ∨ (∃ n c, x = .slice (some ⟨b, 0, none⟩) n c) ∨ x = .map (some b)) → b = w.heap.size) : Grow w ok (w.alloc o) ok v x :=
  ⟨⟨rfl, rfl, rfl, by rw [alloc_size]; omega, fun k hk _ => RowKit.Below.heap_alloc _ _ _ hk⟩, fun _ _ h => h, fun _ _ h => .inl h, fun _ b hb => by rw [hx b hb]; exact Nat.le_refl _⟩

theorem All2.alloc {tm : Array Value} (F : Facts mine w0 st tm w μ ok) (o : Obj) {cs : List SV} {vs : List Value} (h : All2 (SVRel w μ ok) cs vs) : All2 (SVRel (w.alloc o) μ ok) cs vs :=
  h.imp fun x v hxv => hxv.mono (fun f b hb => RowKit.Below.heap_alloc _ _ _ (F.okB b (F.ok_any hb))) (fun _ _ h => h) (fun _ _ => rfl)
end

section
variable {P : Program} {mine : Cx} {w0 : World} {st : St} {a : Act} {w : World} {μ : Locs} {ok : OK} {tb : Tab}

/-- The operation's run gives a value that the abstract one tells. -/
def Gives (P : Program) (mine : Cx) (w0 : World) (st : St) (a : Act) (w : World) (μ : Locs) (ok : OK) (r : Sem Value) (v : AV) : Prop :=
  ∃ x w1 ok1, r.run P w = .ok x w1 ∧ Facts mine w0 st a.tmps w1 μ ok1 ∧ NewRel mine w0 st w1 μ ok1 v x ∧ Grow w ok w1 ok1 v x

theorem Gives.pure (F : Facts mine w0 st a.tmps w μ ok) {r : Sem Value} {v : AV} {x : Value} (hr : r.run P w = .ok x w) (ho : v.isOwner = false) (h : AVRel w μ ok v x) : Gives P mine w0 st a w μ ok r v :=
  ⟨x, w, ok, hr, F, NewRel.of_av ho h, .refl ho⟩

theorem isJunk_ne {x : SV} (h : x ≠ .junk) {w : World} {μ : Locs} {ok : OK} {v : Value} (hv : AVRel w μ ok (.one x) v) : SVRel w μ ok x v := by rwa [AVRel.eq1 h] at hv

/-! ### Numbers -/
theorem wrap_has (k : IntKind) (n : Int) : k.has (k.wrap n) := by
  cases k <;> (unfold IntKind.has IntKind.wrap IntKind.min IntKind.max; simp [IntKind.signed, IntKind.bits]; (try split) <;> omega)

theorem fdiv_has {k : IntKind} {a : Int} (h : k.has a) (n : Nat) : k.has (a.fdiv (2 ^ n)) := by
  have hp : (0 : Int) < 2 ^ n := Int.pow_pos (by decide)
  have key : ∀ lo hi : Int, lo ≤ 0 → 0 ≤ hi → lo ≤ a → a ≤ hi → lo ≤ a.fdiv (2 ^ n) ∧ a.fdiv (2 ^ n) ≤ hi := by
    intro lo hi h1 h2 h3 h4
    rw [Int.fdiv_eq_ediv_of_nonneg _ (Int.le_of_lt hp)]
    constructor
    · rw [Int.le_ediv_iff_mul_le hp]
      refine Int.le_trans ?_ h3
      have : (1 : Int) ≤ 2 ^ n := hp
      calc lo * 2 ^ n ≤ lo * 1 := Int.mul_le_mul_of_nonpos_left h1 this
        _ = lo := Int.mul_one lo
    · by_cases ha : 0 ≤ a
      · exact Int.le_trans (Int.ediv_le_self _ ha) h4
      · exact Int.le_trans (Int.le_of_lt (Int.ediv_neg_of_neg_of_pos (by omega) hp)) h2
  obtain ⟨h1, h2⟩ := h
  exact key k.min k.max (by cases k <;> decide) (by cases k <;> decide) h1 h2

theorem tmod_has {k : IntKind} {a : Int} (h : k.has a) (b : Int) (hb : b ≠ 0) : k.has (a.tmod b) := by
  obtain ⟨h1, h2⟩ := h
  have hlo : k.min ≤ 0 := by cases k <;> decide
  have hhi : 0 ≤ k.max := by cases k <;> decide
  by_cases ha : 0 ≤ a
  · have g1 := Int.tmod_nonneg b ha
    have g2 : a.tmod b ≤ a := by
      have := Int.natAbs_tmod a b
      have h3 : (a.tmod b).natAbs ≤ a.natAbs := by rw [this]; exact Nat.mod_le _ _
      omega
    exact ⟨by omega, by omega⟩
  · have h3 : (a.tmod b).natAbs ≤ a.natAbs := by rw [Int.natAbs_tmod]; exact Nat.mod_le _ _
    have g1 : a.tmod b ≤ 0 := by
      have := Int.tmod_nonneg (-b) (a := -a) (by omega)
      rw [Int.neg_tmod, Int.tmod_neg] at this
      omega
    exact ⟨by omega, by omega⟩

theorem evInt_rel {op : BinOp} {k : IntKind} {x y : Int} {v : SV} (hx : k.has x) (hy : k.has y) (h : evInt op k x y = some (true, v)) :
    ∃ z, (∀ T w, (binOp op T (.int k x) (.int k y)).run P w = .ok z w) ∧ SVRel w μ ok v z := by
  cases op <;> simp only [evInt, Option.some.injEq, Prod.mk.injEq, true_and] at h <;> try (cases h; done)
  case quo =>
    obtain ⟨h1, rfl⟩ := h
    have hy0 : y ≠ 0 := by simpa using h1
    exact ⟨_, fun T w => by simp [binOp, Op.intDiv, hy0], rfl, wrap_has _ _⟩
  case rem =>
    obtain ⟨h1, rfl⟩ := h
    have hy0 : y ≠ 0 := by simpa using h1
    exact ⟨_, fun T w => by simp [binOp, Op.intDiv, hy0], rfl, tmod_has hx _ hy0⟩
  all_goals subst h
  case add => exact ⟨_, fun T w => by simp [binOp, Op.intArith], rfl, wrap_has _ _⟩
  case sub => exact ⟨_, fun T w => by simp [binOp, Op.intArith], rfl, wrap_has _ _⟩
  case mul => exact ⟨_, fun T w => by simp [binOp, Op.intArith], rfl, wrap_has _ _⟩
  case and => exact ⟨_, fun T w => by simp [binOp, Op.intBits], rfl, wrap_has _ _⟩
  case or => exact ⟨_, fun T w => by simp [binOp, Op.intBits], rfl, wrap_has _ _⟩
  case xor => exact ⟨_, fun T w => by simp [binOp, Op.intBits], rfl, wrap_has _ _⟩
  case andNot => exact ⟨_, fun T w => by simp [binOp, Op.intBits], rfl, wrap_has _ _⟩
  case eql => exact ⟨_, fun T w => by simp [binOp, Op.intCmp], rfl⟩
  case neq => exact ⟨_, fun T w => by simp [binOp, Op.intCmp], rfl⟩
  case lss => exact ⟨_, fun T w => by simp [binOp, Op.intCmp], rfl⟩
  case leq => exact ⟨_, fun T w => by simp [binOp, Op.intCmp], rfl⟩
  case gtr => exact ⟨_, fun T w => by simp [binOp, Op.intCmp], rfl⟩
  case geq => exact ⟨_, fun T w => by simp [binOp, Op.intCmp], rfl⟩
end

end Go.AM
