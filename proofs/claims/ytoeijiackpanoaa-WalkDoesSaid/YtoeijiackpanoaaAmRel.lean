/- An abstract machine over the model's own code: what its values say of the machine's values and memory. -/
import Derived.Test.YtoeijiackpanoaaAmDefs
set_option linter.unusedVariables false
set_option linter.unusedSimpArgs false
namespace Go.AM

inductive All2 {α β : Type} (R : α → β → Prop) : List α → List β → Prop where
  | nil : All2 R [] []
  | cons {a : α} {b : β} {l : List α} {m : List β} (h : R a b) (t : All2 R l m) : All2 R (a :: l) (b :: m)

theorem All2.imp {α β : Type} {R S : α → β → Prop} (hRS : ∀ a b, R a b → S a b) {l : List α} {m : List β} (h : All2 R l m) : All2 S l m := by
  induction h with
  | nil => exact .nil
  | cons h _ ih => exact .cons (hRS _ _ h) ih
theorem All2.imp_mem {α β : Type} {R S : α → β → Prop} {l : List α} {m : List β} (h : All2 R l m) (hRS : ∀ a b, a ∈ l → R a b → S a b) : All2 S l m := by
  induction h with
  | nil => exact .nil
  | cons h _ ih => exact .cons (hRS _ _ (by simp) h) (ih fun a b ha => hRS a b (by simp [ha]))
theorem All2.length {α β : Type} {R : α → β → Prop} {l : List α} {m : List β} (h : All2 R l m) : l.length = m.length := by
  induction h with
  | nil => rfl
  | cons _ _ ih => simp [ih]
theorem All2.append {α β : Type} {R : α → β → Prop} {l l' : List α} {m m' : List β} (h : All2 R l m) (h' : All2 R l' m') : All2 R (l ++ l') (m ++ m') := by
  induction h with
  | nil => exact h'
  | cons h _ ih => exact .cons h ih
theorem All2.drop {α β : Type} {R : α → β → Prop} {l : List α} {m : List β} (h : All2 R l m) : ∀ n, All2 R (l.drop n) (m.drop n) := by
  induction h with
  | nil => intro n; simpa using All2.nil
  | cons h t ih =>
    intro n
    cases n with
    | zero => exact .cons h t
    | succ n => simpa using ih n
theorem All2.take {α β : Type} {R : α → β → Prop} {l : List α} {m : List β} (h : All2 R l m) : ∀ n, All2 R (l.take n) (m.take n) := by
  induction h with
  | nil => intro n; simpa using All2.nil
  | cons h t ih =>
    intro n
    cases n with
    | zero => exact .nil
    | succ n => simpa using All2.cons h (ih n)
theorem All2.get {α β : Type} {R : α → β → Prop} {l : List α} {m : List β} (h : All2 R l m) : ∀ (i : Nat) (a : α), l[i]? = some a → ∃ b, m[i]? = some b ∧ R a b := by
  induction h with
  | nil => intro i a hi; simp at hi
  | cons h t ih =>
    intro i a hi
    cases i with
    | zero =>
      simp at hi
      subst hi
      exact ⟨_, rfl, h⟩
    | succ i => simpa using ih i a (by simpa using hi)
theorem All2.split {α β : Type} {R : α → β → Prop} {l l' : List α} : ∀ {m : List β}, All2 R (l ++ l') m → ∃ u v, m = u ++ v ∧ All2 R l u ∧ All2 R l' v := by
  induction l with
  | nil => intro m h; exact ⟨[], m, rfl, .nil, h⟩
  | cons a l ih =>
    intro m h
    cases h with
    | cons h t =>
      obtain ⟨u, v, rfl, h1, h2⟩ := ih t
      exact ⟨_ :: u, v, rfl, .cons h h1, h2⟩
theorem All2.map_left {α α' β : Type} {R : α → β → Prop} {S : α' → β → Prop} (f : α → α') (hf : ∀ a b, R a b → S (f a) b) {l : List α} {m : List β} (h : All2 R l m) : All2 S (l.map f) m := by
  induction h with
  | nil => exact .nil
  | cons h _ ih => exact .cons (hf _ _ h) ih

/-! ### Typed data in memory -/
def Cells (w : World) (b o : Nat) (cs : List Value) : Prop := ∀ q (h : q < cs.length), w.cell? ⟨b, o + q, none⟩ = some cs[q]

def TRel (w : World) (ok : Nat → Prop) : (t : Ty) → t.D → List Value → Prop
  | .int k, n, vs => vs = [.int k n] ∧ k.has n
  | .bool, b, vs => vs = [.bool b]
  | .str, s, vs => vs = [.string s] ∧ s.size ≤ 9223372036854775807
  | .unit, _, vs => vs = []
  | .pair a b, p, vs => ∃ u v, vs = u ++ v ∧ TRel w ok a p.1 u ∧ TRel w ok b p.2 v
  | .sl t, xs, vs => ∃ A c, vs = [.slice A xs.length c] ∧ xs.length ≤ c ∧ c ≤ 9223372036854775807 ∧
      ((A = none ∧ xs = [] ∧ c = 0) ∨
        ∃ b o, (∃ sp, A = some ⟨b, o, sp⟩ ∧ (xs ≠ [] → sp = none)) ∧ (xs ≠ [] → ok b) ∧ ∀ j (h : j < xs.length), ∃ cs, TRel w ok t xs[j] cs ∧ Cells w b (o + j * t.size) cs)

theorem TRel.length {w : World} {ok : Nat → Prop} : ∀ {t : Ty} {x : t.D} {vs : List Value}, TRel w ok t x vs → vs.length = t.size
  | .int k, x, vs, h => by rw [h.1]; rfl
  | .bool, x, vs, h => by rw [show vs = _ from h]; rfl
  | .str, x, vs, h => by rw [h.1]; rfl
  | .unit, x, vs, h => by rw [show vs = _ from h]; rfl
  | .pair a b, x, vs, h => by
    obtain ⟨u, v, rfl, h1, h2⟩ := h
    rw [List.length_append, TRel.length h1, TRel.length h2]; rfl
  | .sl t, x, vs, h => by
    obtain ⟨A, c, rfl, _⟩ := h; rfl

theorem TRel.one {w : World} {ok : Nat → Prop} : ∀ {t : Ty} {x : t.D} {vs : List Value}, TRel w ok t x vs → ∀ v ∈ vs, v.oneCell' = true
  | .int k, x, vs, h => by rw [h.1]; simp [Value.oneCell']
  | .bool, x, vs, h => by rw [show vs = _ from h]; simp [Value.oneCell']
  | .str, x, vs, h => by rw [h.1]; simp [Value.oneCell']
  | .unit, x, vs, h => by rw [show vs = _ from h]; simp
  | .pair a b, x, vs, h => by
    obtain ⟨u, v, rfl, h1, h2⟩ := h
    intro z hz
    rcases List.mem_append.1 hz with hz | hz
    · exact TRel.one h1 z hz
    · exact TRel.one h2 z hz
  | .sl t, x, vs, h => by
    obtain ⟨A, c, rfl, _⟩ := h; simp [Value.oneCell']

theorem cell_same {w w' : World} {b : Nat} (h : w'.heap[b]? = w.heap[b]?) (o : Nat) : w'.cell? ⟨b, o, none⟩ = w.cell? ⟨b, o, none⟩ := by
  simp only [World.cell?, h]
theorem Cells.same {w w' : World} {b o : Nat} {cs : List Value} (h : w'.heap[b]? = w.heap[b]?) (hc : Cells w b o cs) : Cells w' b o cs :=
  fun q hq => (cell_same h _).trans (hc q hq)

theorem TRel.mono {w w' : World} {ok ok' : Nat → Prop} (hw : ∀ b, ok b → w'.heap[b]? = w.heap[b]?) (hok : ∀ b, ok b → ok' b) :
    ∀ {t : Ty} {x : t.D} {vs : List Value}, TRel w ok t x vs → TRel w' ok' t x vs
  | .int k, x, vs, h => h
  | .bool, x, vs, h => h
  | .str, x, vs, h => h
  | .unit, x, vs, h => h
  | .pair a b, x, vs, h => by
    obtain ⟨u, v, e, h1, h2⟩ := h
    exact ⟨u, v, e, TRel.mono hw hok h1, TRel.mono hw hok h2⟩
  | .sl t, xs, vs, h => by
    obtain ⟨A, c, e, hc, hm, hh⟩ := h
    refine ⟨A, c, e, hc, hm, ?_⟩
    rcases hh with hh | ⟨b, o, e1, hb, hj⟩
    · exact .inl hh
    · refine .inr ⟨b, o, e1, fun hx => hok _ (hb hx), fun j hlt => ?_⟩
      obtain ⟨cs, ht, hcs⟩ := hj j hlt
      exact ⟨cs, TRel.mono hw hok ht, hcs.same (hw b (hb (by intro e0; simp [e0] at hlt)))⟩

/-! ### Values of one cell -/
/-- Where an owner's row lies: its block, the slice's length and capacity. -/
structure Loc where
  b : Option Nat
  len : Nat
  cap : Nat
abbrev Locs := Nat → Loc
abbrev OK := Bool → Nat → Prop

def slv (l : Loc) (n : Option Nat) : Value := .slice (l.b.map fun b => ⟨b, 0, none⟩) (n.getD l.len) l.cap

def RpRel (w : World) (ok : Nat → Prop) (t : Ty) (x : t.D) (off : Nat) (v : Value) : Prop :=
  ∃ b o cs, v = .pointer (some ⟨b, o + off, none⟩) ∧ ok b ∧ TRel w ok t x cs ∧ Cells w b o cs

def nlRel : Option Bool → Value → Prop
  | none, _ => True
  | some true, v => v = .slice none 0 0
  | some false, v => ∃ a n c, v = .slice (some a) n c

/-- A value of a type, whole. -/
def VRel (w : World) (okf : Nat → Prop) (t : Ty) (x : t.D) (v : Value) : Prop :=
  match t.isAgg with
  | true => ∃ vs : List Value, v = .agg vs.toArray ∧ TRel w okf t x vs
  | false => TRel w okf t x [v]
theorem VRel.agg {w : World} {okf : Nat → Prop} {t : Ty} {x : t.D} {v : Value} (h : t.isAgg = true) : VRel w okf t x v = ∃ vs : List Value, v = .agg vs.toArray ∧ TRel w okf t x vs := by unfold VRel; rw [h]
theorem VRel.one {w : World} {okf : Nat → Prop} {t : Ty} {x : t.D} {v : Value} (h : t.isAgg = false) : VRel w okf t x v = TRel w okf t x [v] := by unfold VRel; rw [h]
theorem VRel.mono {w w' : World} {ok ok' : Nat → Prop} (hw : ∀ b, ok b → w'.heap[b]? = w.heap[b]?) (hok : ∀ b, ok b → ok' b) {t : Ty} {x : t.D} {v : Value} (h : VRel w ok t x v) : VRel w' ok' t x v := by
  cases ha : t.isAgg with
  | true => rw [VRel.agg ha] at h ⊢; obtain ⟨vs, e, h⟩ := h; exact ⟨vs, e, TRel.mono hw hok h⟩
  | false => rw [VRel.one ha] at h ⊢; exact TRel.mono hw hok h
def EntsRel (w : World) (okf : Nat → Prop) (kt vt : Ty) (es : List (kt.D × vt.D)) (arr : List MapEntry) : Prop :=
  All2 (fun p e => VRel w okf kt p.1 e.key ∧ VRel w okf vt p.2 e.val) es arr
/-- What a map's block holds. -/
def MapRel (w : World) (okf : Nat → Prop) (kt vt : Ty) (es : List (kt.D × vt.D)) (b : Nat) : Prop :=
  ∃ arr clock, w.heap[b]? = some (.map arr clock) ∧ EntsRel w okf kt vt es arr.toList
theorem MapRel.mono {w w' : World} {ok ok' : Nat → Prop} (hw : ∀ b, ok b → w'.heap[b]? = w.heap[b]?) (hok : ∀ b, ok b → ok' b) {kt vt : Ty} {es : List (kt.D × vt.D)} {b : Nat} (hb : w'.heap[b]? = w.heap[b]?) (h : MapRel w ok kt vt es b) : MapRel w' ok' kt vt es b := by
  obtain ⟨arr, clock, h1, h2⟩ := h
  exact ⟨arr, clock, hb.trans h1, h2.imp fun p e h => ⟨h.1.mono hw hok, h.2.mono hw hok⟩⟩

def SVRel0 (w : World) (μ : Locs) (ok : OK) : SV → Value → Prop
  | .junk, v => v.oneCell' = true
  | .bool b, v => v = .bool b
  | .int k n, v => v = .int k n ∧ k.has n
  | .str s, v => v = .string s ∧ s.size ≤ 9223372036854775807
  | .nilp, v => v = .pointer none
  | .nils, v => v = .slice none 0 0
  | .nilf, v => v = .nilFunc
  | .nilm, v => v = .map none
  | .sm fr kt vt es, v => (v = .map none ∧ es = []) ∨ ∃ b, v = .map (some b) ∧ ok fr b ∧ MapRel w (ok fr) kt vt es b
  | .mref s, v => ∃ b, (μ s).b = some b ∧ v = .map (some b)
  | .sl fr t nl xs, v => TRel w (ok fr) (.sl t) xs [v] ∧ nlRel nl v
  | .ptr s off, v => ∃ b, (μ s).b = some b ∧ v = .pointer (some ⟨b, off, none⟩)
  | .aptr s base len idx, v => ∃ b, (μ s).b = some b ∧ v = .pointer (some ⟨b, base + idx.toNat, none⟩) ∧ 0 ≤ idx ∧ idx < len
  | .hot s n, v => v = slv (μ s) n ∧ (∀ m, n = some m → m ≤ (μ s).len) ∧ (μ s).len ≤ 9223372036854775807
  | .hptr s sz i off, v => ∃ b, (μ s).b = some b ∧ v = .pointer (some ⟨b, i.toNat * sz + off, none⟩) ∧ 0 ≤ i ∧ i < (μ s).len
  | .rp fr t x off, v => RpRel w (ok fr) t x off v
  | .fn _ _, _ => False
  | .cut s sz lo hi, v => ∃ b, (μ s).b = some b ∧ v = .slice (some ⟨b, lo * sz, none⟩) (hi - lo) ((μ s).cap - lo) ∧ lo < hi ∧ hi ≤ (μ s).len

def CellsRel (R : SV → Value → Prop) : AV → Value → Prop
  | .one x, v => R x v
  | .agg cs, v => ∃ vs : List Value, v = .agg vs.toArray ∧ All2 R cs vs
  | _, _ => False

def CapRel (w : World) (μ : Locs) (ok : OK) (c : Cap) (v : Value) : Prop := CellsRel (SVRel0 w μ ok) (capVal c) v

def SVRel (w : World) (μ : Locs) (ok : OK) : SV → Value → Prop
  | .fn f caps, v => ∃ vs : List Value, v = .func (.func f) #[] vs.toArray ∧ All2 (CapRel w μ ok) caps vs
  | x, v => SVRel0 w μ ok x v

theorem SVRel0.one {w : World} {μ : Locs} {ok : OK} : ∀ {x : SV} {v : Value}, SVRel0 w μ ok x v → v.oneCell' = true := by
  intro x v h
  cases x with
  | junk => exact h
  | bool b => rw [show v = _ from h]; rfl
  | int k n => rw [h.1]; rfl
  | str s => rw [h.1]; rfl
  | nilp => rw [show v = _ from h]; rfl
  | nils => rw [show v = _ from h]; rfl
  | nilf => rw [show v = _ from h]; rfl
  | nilm => rw [show v = _ from h]; rfl
  | sm fr kt vt es => rcases h with ⟨rfl, _⟩ | ⟨b, rfl, _⟩ <;> rfl
  | mref s => obtain ⟨b, _, rfl⟩ := h; rfl
  | sl fr t nl xs => exact TRel.one h.1 v (by simp)
  | ptr s off => obtain ⟨b, _, rfl⟩ := h; rfl
  | aptr s base len idx => obtain ⟨b, _, rfl, _⟩ := h; rfl
  | hot s n => rw [h.1]; rfl
  | hptr s sz i off => obtain ⟨b, _, rfl, _⟩ := h; rfl
  | rp fr t x off => obtain ⟨b, o, cs, rfl, _⟩ := h; rfl
  | fn f caps => exact h.elim
  | cut s sz lo hi => obtain ⟨b, _, rfl, _⟩ := h; rfl
theorem SVRel.eq0 {w : World} {μ : Locs} {ok : OK} {x : SV} {v : Value} (h : ∀ f c, x ≠ .fn f c) : SVRel w μ ok x v = SVRel0 w μ ok x v := by
  cases x <;> first | rfl | exact absurd rfl (h _ _)
theorem SVRel.one {w : World} {μ : Locs} {ok : OK} {x : SV} {v : Value} (h : SVRel w μ ok x v) : v.oneCell' = true := by
  cases x with
  | fn f caps => obtain ⟨vs, rfl, _⟩ := h; rfl
  | _ => rw [SVRel.eq0 (by intro f c e; cases e)] at h; exact SVRel0.one h

/-- What a change of the world, of the rows' places, and of what is stable, leaves as it was. -/
theorem SVRel0.mono {w w' : World} {μ μ' : Locs} {ok ok' : OK} (hw : ∀ fr b, ok fr b → w'.heap[b]? = w.heap[b]?) (hok : ∀ fr b, ok fr b → ok' fr b)
    {x : SV} {v : Value} (hμ : ∀ s, x.refers s = true → μ' s = μ s) (h : SVRel0 w μ ok x v) : SVRel0 w' μ' ok' x v := by
  cases x with
  | sl fr t nl xs => exact ⟨TRel.mono (hw fr) (hok fr) h.1, h.2⟩
  | sm fr kt vt es =>
    rcases h with h | ⟨b, e, hb, h⟩
    · exact .inl h
    · exact .inr ⟨b, e, hok fr b hb, h.mono (hw fr) (hok fr) (hw fr b hb)⟩
  | mref s => rw [SVRel0, hμ s (by simp [SV.refers])]; exact h
  | ptr s off =>
    obtain ⟨b, h1, h2⟩ := h
    exact ⟨b, by rw [hμ s (by simp [SV.refers])]; exact h1, h2⟩
  | aptr s base len idx =>
    obtain ⟨b, h1, h2⟩ := h
    exact ⟨b, by rw [hμ s (by simp [SV.refers])]; exact h1, h2⟩
  | hot s n =>
    have e := hμ s (by simp [SV.refers])
    show v = slv (μ' s) n ∧ (∀ m, n = some m → m ≤ (μ' s).len) ∧ (μ' s).len ≤ 9223372036854775807
    rw [e]; exact h
  | hptr s sz i off =>
    obtain ⟨b, h1, h2, h3⟩ := h
    have e := hμ s (by simp [SV.refers])
    exact ⟨b, by rw [e]; exact h1, h2, by rw [e]; exact h3⟩
  | rp fr t x off =>
    obtain ⟨b, o, cs, e, hb, ht, hc⟩ := h
    exact ⟨b, o, cs, e, hok _ _ hb, TRel.mono (hw fr) (hok fr) ht, hc.same (hw fr b hb)⟩
  | cut s sz lo hi =>
    have e := hμ s (by simp [SV.refers])
    show ∃ b, (μ' s).b = some b ∧ v = .slice (some ⟨b, lo * sz, none⟩) (hi - lo) ((μ' s).cap - lo) ∧ lo < hi ∧ hi ≤ (μ' s).len
    rw [e]; exact h
  | _ => exact h

theorem CellsRel.mono {R S : SV → Value → Prop} {a : AV} {v : Value} (hRS : ∀ x v, (∀ d, x.refers d = true → (match a with | .one y => y.refers d | .agg cs => cs.any (SV.refers d) | _ => false) = true) → R x v → S x v) (h : CellsRel R a v) : CellsRel S a v := by
  cases a with
  | one x => exact hRS x v (fun d hd => hd) h
  | agg cs =>
    obtain ⟨vs, e, hh⟩ := h
    exact ⟨vs, e, hh.imp_mem fun a b ha hab => hRS a b (fun d hd => List.any_eq_true.2 ⟨a, ha, hd⟩) hab⟩
  | tup l => exact h.elim
  | own cs => exact h.elim
  | arr fr t xs => exact h.elim
  | mapO fr kt vt es => exact h.elim
  | gho o => exact h.elim

theorem enc_refers {d : Nat} : ∀ {t : Ty} {fr : Bool} {x : t.D}, ∀ y ∈ enc t fr x, y.refers d = false
  | .int k, fr, x => by simp [enc, SV.refers]
  | .bool, fr, x => by simp [enc, SV.refers]
  | .str, fr, x => by simp [enc, SV.refers]
  | .unit, fr, x => by simp [enc]
  | .pair a b, fr, x => by
    intro y hy
    rcases List.mem_append.1 hy with hy | hy
    · exact enc_refers y hy
    · exact enc_refers y hy
  | .sl t, fr, x => by simp [enc, SV.refers]

theorem capVal_refers (c : Cap) (d : Nat) (h : c.refers d = false) : ∀ x, (capVal c = .one x → x.refers d = false) ∧ ∀ cs, capVal c = .agg cs → x ∈ cs → x.refers d = false := by
  intro x
  cases c with
  | ref s off =>
    refine ⟨fun e => ?_, fun cs e => by simp [capVal] at e⟩
    simp only [capVal, AV.one.injEq] at e; subst e; simpa [SV.refers, Cap.refers] using h
  | ptrD fr t y =>
    refine ⟨fun e => ?_, fun cs e => by simp [capVal] at e⟩
    simp only [capVal, AV.one.injEq] at e; subst e; rfl
  | valD fr t y =>
    have hall : ∀ z ∈ enc t fr y, z.refers d = false := enc_refers
    simp only [capVal]
    split
    · rename_i v he
      refine ⟨fun e => ?_, fun cs e => by simp at e⟩
      simp only [AV.one.injEq] at e; subst e; exact hall _ (by simp [he])
    · refine ⟨fun e => by simp at e, fun cs' e hx => ?_⟩
      simp only [AV.agg.injEq] at e; subst e; exact hall _ hx

theorem CapRel.mono {w w' : World} {μ μ' : Locs} {ok ok' : OK} (hw : ∀ fr b, ok fr b → w'.heap[b]? = w.heap[b]?) (hok : ∀ fr b, ok fr b → ok' fr b)
    {c : Cap} {v : Value} (hμ : ∀ s, c.refers s = true → μ' s = μ s) (h : CapRel w μ ok c v) : CapRel w' μ' ok' c v := by
  unfold CapRel at *
  cases c with
  | ref s off =>
    obtain ⟨b, h1, h2⟩ := h
    exact ⟨b, by rw [hμ s (by simp [Cap.refers])]; exact h1, h2⟩
  | ptrD fr t x => exact SVRel0.mono (x := .rp fr t x 0) (μ := μ) (μ' := μ') hw hok (fun s hs => by simp [SV.refers] at hs) h
  | valD fr t x =>
    have hall : ∀ d, ∀ z ∈ enc t fr x, z.refers d = false := fun d => enc_refers
    simp only [capVal] at *
    split at h
    · rename_i y he
      exact SVRel0.mono hw hok (fun s hs => by rw [hall s y (by simp [he])] at hs; cases hs) h
    · rename_i cs he
      obtain ⟨vs, e, hh⟩ := h
      exact ⟨vs, e, hh.imp_mem fun a b ha hab => SVRel0.mono hw hok (fun s hs => by rw [hall s a ha] at hs; cases hs) hab⟩

theorem SVRel.mono {w w' : World} {μ μ' : Locs} {ok ok' : OK} (hw : ∀ fr b, ok fr b → w'.heap[b]? = w.heap[b]?) (hok : ∀ fr b, ok fr b → ok' fr b)
    {x : SV} {v : Value} (hμ : ∀ s, x.refers s = true → μ' s = μ s) (h : SVRel w μ ok x v) : SVRel w' μ' ok' x v := by
  cases x with
  | fn f caps =>
    obtain ⟨vs, e, hh⟩ := h
    exact ⟨vs, e, hh.imp_mem fun c b hc hcb => CapRel.mono hw hok (fun s hs => hμ s (List.any_eq_true.2 ⟨c, hc, hs⟩)) hcb⟩
  | _ =>
    rw [SVRel.eq0 (by intro f c e; cases e)] at h ⊢
    exact SVRel0.mono hw hok hμ h

/-! ### Slots -/
def compRel (w : World) (μ : Locs) (ok : OK) (p : Bool × List SV) (v : Value) : Prop :=
  match p with
  | (true, cs) => ∃ us : List Value, v = .agg us.toArray ∧ All2 (SVRel w μ ok) cs us
  | (false, cs) => ∃ x, cs = [x] ∧ SVRel w μ ok x v

def AVRel (w : World) (μ : Locs) (ok : OK) : AV → Value → Prop
  | .one .junk, _ => True
  | .one x, v => SVRel w μ ok x v
  | .agg cs, v => ∃ vs : List Value, v = .agg vs.toArray ∧ All2 (SVRel w μ ok) cs vs
  | .tup l, v => ∃ vs : List Value, v = .tuple vs.toArray ∧ All2 (compRel w μ ok) l vs
  | _, _ => False

theorem AVRel.eq1 {w : World} {μ : Locs} {ok : OK} {x : SV} {v : Value} (h : x ≠ .junk) : AVRel w μ ok (.one x) v = SVRel w μ ok x v := by
  cases x <;> first | rfl | exact absurd rfl h
theorem AVRel.mono {w w' : World} {μ μ' : Locs} {ok ok' : OK} (hw : ∀ fr b, ok fr b → w'.heap[b]? = w.heap[b]?) (hok : ∀ fr b, ok fr b → ok' fr b)
    {x : AV} {v : Value} (hμ : ∀ s, x.refers s = true → μ' s = μ s) (h : AVRel w μ ok x v) : AVRel w' μ' ok' x v := by
  cases x with
  | one x =>
    cases x with
    | junk => trivial
    | _ =>
      rw [AVRel.eq1 (by intro e; cases e)] at h ⊢
      exact SVRel.mono hw hok hμ h
  | agg cs =>
    obtain ⟨vs, e, hh⟩ := h
    exact ⟨vs, e, hh.imp_mem fun c b hc hcb => SVRel.mono hw hok (fun s hs => hμ s (List.any_eq_true.2 ⟨c, hc, hs⟩)) hcb⟩
  | tup l =>
    obtain ⟨vs, e, hh⟩ := h
    refine ⟨vs, e, hh.imp_mem fun p b hp hpb => ?_⟩
    obtain ⟨f, cs⟩ := p
    have hμ' : ∀ y ∈ cs, ∀ s, y.refers s = true → μ' s = μ s := fun y hy s hs => hμ s (List.any_eq_true.2 ⟨_, hp, List.any_eq_true.2 ⟨y, hy, hs⟩⟩)
    cases f with
    | true =>
      obtain ⟨us, e, hu⟩ := hpb
      exact ⟨us, e, hu.imp_mem fun c b hc hcb => SVRel.mono hw hok (hμ' c hc) hcb⟩
    | false =>
      obtain ⟨y, e, hy⟩ := hpb
      exact ⟨y, e, SVRel.mono hw hok (hμ' y (by simp [show cs = [y] from e])) hy⟩
  | own cs => exact h.elim
  | arr fr t xs => exact h.elim
  | mapO fr kt vt es => exact h.elim
  | gho o => exact h.elim

/-- What a slot's value is. -/
def SlotRel (w : World) (μ : Locs) (ok : OK) (i : Nat) : AV → Value → Prop
  | .own _, v => ∃ b, (μ i).b = some b ∧ v = .pointer (some ⟨b, 0, none⟩)
  | .arr _ _ _, v => v = slv (μ i) none
  | .mapO _ _ _ _, v => ∃ b, (μ i).b = some b ∧ v = .map (some b)
  | .gho _, _ => True
  | a, v => AVRel w μ ok a v

/-- What an owner's row holds. -/
def OwnRel (w : World) (μ : Locs) (ok : OK) (i : Nat) : AV → Prop
  | .own cs => ∃ b c E, (μ i).b = some b ∧ w.heap[b]? = some (.cells c E (0, 0)) ∧ All2 (SVRel w μ ok) cs c.toList
  | .arr fr t xs => (μ i).len = xs.length ∧ (μ i).len ≤ (μ i).cap ∧ (μ i).cap ≤ 9223372036854775807 ∧
      (((μ i).b = none ∧ xs = [] ∧ (μ i).cap = 0) ∨
        ∃ b c E, (μ i).b = some b ∧ w.heap[b]? = some (.cells c E (0, 0)) ∧ (μ i).cap * t.size ≤ c.size ∧
          ∀ j (h : j < xs.length), ∃ cs, TRel w (ok fr) t xs[j] cs ∧ ∀ q (hq : q < cs.length), c[j * t.size + q]? = some cs[q])
  | .mapO fr kt vt es => ∃ b, (μ i).b = some b ∧ MapRel w (ok fr) kt vt es b
  | _ => True

/-- What was there when the call began is as it was, but for what may be written. -/
structure Fr (mine : Nat → Prop) (w0 w : World) : Prop where
  os : w.os = w0.os
  tape : w.tape = w0.tape
  output : w.output = w0.output
  size : w0.heap.size ≤ w.heap.size
  block : ∀ k, k < w0.heap.size → ¬ mine k → w.heap[k]? = w0.heap[k]?

/-- What a call may write, and what it was given to read. -/
structure Cx where
  mine : Nat → Prop
  base : Nat → Prop
  /-- how many slots the frame has; where the rows of some ghosts lie -/
  n : Nat
  m : Nat
  pin : Nat → Option Loc

structure Facts (mine : Cx) (w0 : World) (st : St) (tm : Array Value) (w : World) (μ : Locs) (ok : OK) : Prop where
  slots : ∀ i, SlotRel w μ ok i (st.at i) (tm.getD i undef)
  owns : ∀ i, OwnRel w μ ok i (st.ow i)
  size : tm.size = mine.n
  gho : ∀ i, mine.n ≤ i → i < st.length → (st.at i).isGho = true
  real : ∀ i, i < mine.n → (st.at i).isGho = false
  len : mine.n ≤ st.length ∧ mine.m ≤ st.length
  pin : ∀ i l, mine.pin i = some l → mine.n ≤ i ∧ i < mine.m ∧ μ i = l
  ownB : ∀ i b, (st.ow i).isOwner = true → (μ i).b = some b → b < w.heap.size ∧ (w0.heap.size ≤ b ∨ mine.mine b) ∧ ¬ ok false b
  inj : ∀ i j b, (st.ow i).isOwner = true → (st.ow j).isOwner = true → (μ i).b = some b → (μ j).b = some b → i = j
  okB : ∀ b, ok false b → b < w.heap.size
  okT : ∀ b, ok true b → ok false b
  okF : ∀ b, ok true b → w0.heap.size ≤ b
  okS : ∀ b, ok false b → w0.heap.size ≤ b ∨ mine.base b
  fr : Fr mine.mine w0 w

theorem Facts.ok_any {mine : Cx} {w0 : World} {st : St} {tm : Array Value} {w : World} {μ : Locs} {ok : OK} (F : Facts mine w0 st tm w μ ok) {f : Bool} {b : Nat} (h : ok f b) : ok false b := by
  cases f with
  | true => exact F.okT b h
  | false => exact h

end Go.AM
