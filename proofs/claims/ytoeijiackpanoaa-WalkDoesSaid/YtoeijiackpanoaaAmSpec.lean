/- An abstract machine over the model's own code: contracts by typed arguments; a table of what functions come to. -/
import Derived.Test.YtoeijiackpanoaaAmFnIO
set_option linter.unusedVariables false
set_option linter.unusedSimpArgs false
namespace Go.AM

/-- What data of a type are, when they come from the machine: numbers in their range, lengths that can be. -/
def WF : (t : Ty) → t.D → Prop
  | .int k, n => k.has n
  | .bool, _ => True
  | .str, s => s.size ≤ 9223372036854775807
  | .unit, _ => True
  | .pair a b, p => WF a p.1 ∧ WF b p.2
  | .sl t, xs => xs.length ≤ 9223372036854775807 ∧ ∀ x ∈ xs, WF t x

theorem TRel.wf {w : World} {okf : Nat → Prop} : ∀ {t : Ty} {x : t.D} {vs : List Value}, TRel w okf t x vs → WF t x
  | .int k, x, vs, h => h.2
  | .bool, x, vs, h => trivial
  | .str, x, vs, h => h.2
  | .unit, x, vs, h => trivial
  | .pair a b, x, vs, h => by
    obtain ⟨u, v, _, h1, h2⟩ := h
    exact ⟨TRel.wf h1, TRel.wf h2⟩
  | .sl t, xs, vs, h => by
    obtain ⟨A, c, e, h1, h2, h3⟩ := h
    refine ⟨by omega, fun x hx => ?_⟩
    obtain ⟨j, hj, rfl⟩ := List.getElem_of_mem hx
    rcases h3 with ⟨_, rfl, _⟩ | ⟨b, o, _, _, h3⟩
    · simp at hj
    · obtain ⟨cs, g1, _⟩ := h3 j hj
      exact TRel.wf g1

/-- An argument's kind: data of a type; anything. -/
inductive AK where
  | v (t : Ty)
  | raw

@[reducible] def AK.D : AK → Type
  | .v t => t.D
  | .raw => AV

def encV (t : Ty) (x : t.D) : AV :=
  match t, x with
  | .int k, n => .one (.int k n)
  | .bool, b => .one (.bool b)
  | .str, s => .one (.str s)
  | .unit, _ => .agg []
  | .sl t, xs => .one (.sl false t none xs)
  | .pair a b, p => .agg (enc (.pair a b) false p)

def AK.enc : (k : AK) → k.D → AV
  | .v t, x => encV t x
  | .raw, a => a

def decV (t : Ty) (a : AV) : Option t.D :=
  match toD t a with
  | some (x, _) => some x
  | none => none

def AK.dec : (k : AK) → AV → Option k.D
  | .v t, a => decV t a
  | .raw, a => some a

@[reducible] def ADen : List AK → Type
  | [] => Unit
  | [k] => k.D
  | k :: ks => k.D × ADen ks

def encA : (ks : List AK) → ADen ks → List AV
  | [], _ => []
  | [k], x => [k.enc x]
  | k :: k' :: ks, p => k.enc p.1 :: encA (k' :: ks) p.2

def decA : (ks : List AK) → List AV → Option (ADen ks)
  | [], [] => some ()
  | [k], [a] => k.dec a
  | k :: k' :: ks, a :: l =>
    match k.dec a, decA (k' :: ks) l with
    | some x, some y => some (x, y)
    | _, _ => none
  | _, _ => none

def WFA : (ks : List AK) → ADen ks → Prop
  | [], _ => True
  | [.v t], x => WF t x
  | [.raw], _ => True
  | .v t :: k' :: ks, p => WF t p.1 ∧ WFA (k' :: ks) p.2
  | .raw :: k' :: ks, p => WFA (k' :: ks) p.2

section
variable {w : World} {okA : Nat → Prop}

theorem argT : ∀ b, argOK okA true b → argOK okA false b := fun b h => by cases h.1

theorem enc_rel0 {t : Ty} {x : t.D} {vs : List Value} {f : Bool} (h : TRel w (argOK okA f) t x vs) : All2 (SVRel w μ0 (argOK okA)) (enc t false x) vs := by
  refine enc_rel (fr := false) (TRel.mono (fun _ _ => rfl) (fun b hb => ⟨rfl, hb.2⟩) h)

theorem encV_comp {t : Ty} {x : t.D} {v : Value} (h : compRel w μ0 (argOK okA) (t.isAgg, enc t false x) v) : AVRel w μ0 (argOK okA) (encV t x) v := by
  cases t with
  | int k => obtain ⟨y, e, h⟩ := h; simp only [enc, List.cons.injEq, and_true] at e; subst e; exact h
  | bool => obtain ⟨y, e, h⟩ := h; simp only [enc, List.cons.injEq, and_true] at e; subst e; exact h
  | str => obtain ⟨y, e, h⟩ := h; simp only [enc, List.cons.injEq, and_true] at e; subst e; exact h
  | sl t => obtain ⟨y, e, h⟩ := h; simp only [enc, List.cons.injEq, and_true] at e; subst e; exact h
  | unit => exact h
  | pair a b => exact h

theorem VRel.wf {okf : Nat → Prop} {t : Ty} {x : t.D} {v : Value} (h : VRel w okf t x v) : WF t x := by
  cases ha : t.isAgg with
  | true => rw [VRel.agg ha] at h; obtain ⟨vs, _, h⟩ := h; exact h.wf
  | false => rw [VRel.one ha] at h; exact h.wf

theorem decV_rel {t : Ty} {a : AV} {x : t.D} {v : Value} (h : AVRel w μ0 (argOK okA) a v) (hd : decV t a = some x) : AVRel w μ0 (argOK okA) (encV t x) v ∧ WF t x := by
  unfold decV at hd
  split at hd
  · rename_i x' f he
    cases hd
    have hv := toD_rel argT h he
    refine ⟨encV_comp (ofD_rel (hv.mono (fun _ _ => rfl) fun b hb => ?_)), hv.wf⟩
    exact ⟨rfl, hb.2⟩
  · cases hd

theorem decA_rel : ∀ {ks : List AK} {l : List AV} {x : ADen ks} {vs : List Value}, All2 (AVRel w μ0 (argOK okA)) l vs → decA ks l = some x → All2 (AVRel w μ0 (argOK okA)) (encA ks x) vs ∧ WFA ks x := by
  have one : ∀ {k : AK} {a : AV} {x : k.D} {v : Value}, AVRel w μ0 (argOK okA) a v → k.dec a = some x → AVRel w μ0 (argOK okA) (k.enc x) v := by
    intro k a x v h hd
    cases k with
    | v t => exact (decV_rel h hd).1
    | raw => cases hd; exact h
  intro ks
  induction ks with
  | nil =>
    intro l x vs h hd
    cases h with
    | nil => exact ⟨.nil, trivial⟩
    | cons _ _ => simp [decA] at hd
  | cons k ks ih =>
    intro l x vs h hd
    cases h with
    | nil => cases ks <;> simp [decA] at hd
    | @cons a v l vs ha hl =>
      cases ks with
      | nil =>
        cases hl with
        | nil =>
          refine ⟨.cons (one ha hd) .nil, ?_⟩
          cases k with
          | v t => exact (decV_rel ha hd).2
          | raw => trivial
        | cons _ _ => simp [decA] at hd
      | cons k' ks =>
        simp only [decA] at hd
        split at hd
        · rename_i x' y h1 h2
          cases hd
          obtain ⟨g1, g2⟩ := ih hl h2
          refine ⟨.cons (one ha h1) g1, ?_⟩
          cases k with
          | v t => exact ⟨(decV_rel ha h1).2, g2⟩
          | raw => exact g2
        · cases hd
end

/-- What a function comes to: by typed arguments; or as it is told; with what it is given to write. -/
inductive Sp where
  | fn (ks : List AK) (f : ADen ks → Bool × AV)
  | raw (g : List AV → Option (Bool × AV))
  | io (g : List AV → Nat → List AV → Option (Bool × AV × List AV))

def Sp.run : Sp → List AV → Option (Bool × AV)
  | .fn ks f, l =>
    match decA ks l with
    | some x => some (f x)
    | none => none
  | .raw g, l => g l
  | .io _, _ => none
def Sp.runIO : Sp → List AV → Nat → List AV → Option (Bool × AV × List AV)
  | .io g, l, p, gs => g l p gs
  | _, _, _, _ => none
def Sp.isIO : Sp → Bool
  | .io _ => true
  | _ => false

def orcF : List (FuncId × Sp) → FuncId → List AV → Option (Bool × AV)
  | [], _, _ => none
  | (a, s) :: r, f, l => bif Nat.beq a f && !s.isIO then s.run l else orcF r f l
def orcI : List (FuncId × Sp) → FuncId → List AV → Nat → List AV → Option (Bool × AV × List AV)
  | [], _, _, _, _ => none
  | (a, s) :: r, f, l, p, gs => bif Nat.beq a f && s.isIO then s.runIO l p gs else orcI r f l p gs
def orcH : List (FuncId × Sp) → FuncId → Bool
  | [], _ => false
  | (a, s) :: r, f => (Nat.beq a f && s.isIO) || orcH r f
def orc (l : List (FuncId × Sp)) : Orc := ⟨orcF l, orcI l, orcH l⟩

/-- A TYPED CONTRACT. -/
def GoodS (P : Program) (f : FuncId) (s : Sp) : Prop :=
  Callable P f ∧ (∀ l r, s.run l = some (true, r) → Good P f l r) ∧ (∀ l p gs r gs', s.runIO l p gs = some (true, r, gs') → GoodIO P f l p gs r gs')

theorem OrcOk.nil (P : Program) : OrcOk P (orc []) := ⟨fun f l r h => (by cases h), fun f l p gs r gs' h => (by cases h)⟩
theorem OrcOk.cons {P : Program} {f : FuncId} {s : Sp} {r : List (FuncId × Sp)} (h : GoodS P f s) (t : OrcOk P (orc r)) : OrcOk P (orc ((f, s) :: r)) := by
  refine ⟨fun g l v hv => ?_, fun g l p gs v gs' hv => ?_⟩
  · have hv : (bif Nat.beq f g && !s.isIO then s.run l else orcF r g l) = some (true, v) := hv
    cases hb : (Nat.beq f g && !s.isIO) with
    | true =>
      rw [hb] at hv
      simp only [Bool.and_eq_true] at hb
      obtain rfl := Nat.eq_of_beq_eq_true hb.1
      exact ⟨h.1, h.2.1 l v hv⟩
    | false =>
      rw [hb] at hv
      exact t.1 g l v hv
  · have hv : (bif Nat.beq f g && s.isIO then s.runIO l p gs else orcI r g l p gs) = some (true, v, gs') := hv
    cases hb : (Nat.beq f g && s.isIO) with
    | true =>
      rw [hb] at hv
      simp only [Bool.and_eq_true] at hb
      obtain rfl := Nat.eq_of_beq_eq_true hb.1
      exact ⟨h.1, h.2.2 l p gs v gs' hv⟩
    | false =>
      rw [hb] at hv
      exact t.2 g l p gs v gs' hv

/-- A contract is owed only at data that can be. -/
theorem Good.of_rel {P : Program} {f : FuncId} {l l' : List AV} {r : AV} {p : Prop} (h : ∀ (w : World) (okA : Nat → Prop) (vs : List Value), All2 (AVRel w μ0 (argOK okA)) l vs → All2 (AVRel w μ0 (argOK okA)) l' vs ∧ p) (hp : p → Good P f l' r) : Good P f l r := by
  intro w okA vs hA hl
  obtain ⟨h1, h2⟩ := h w okA vs hl
  exact hp h2 w okA vs hA h1

theorem GoodS.fn {P : Program} {f : FuncId} {ks : List AK} {g : ADen ks → Bool × AV} (hc : Callable P f) (h : ∀ x r, WFA ks x → g x = (true, r) → Good P f (encA ks x) r) : GoodS P f (.fn ks g) := by
  refine ⟨hc, fun l r hr => ?_, fun l p gs r gs' h => by cases h⟩
  simp only [Sp.run] at hr
  split at hr
  · rename_i x hx
    simp only [Option.some.injEq] at hr
    exact Good.of_rel (fun w okA vs hl => decA_rel hl hx) fun hw => h x r hw hr
  · cases hr

/-! ### What values are, when they come from the machine -/
def SV.wf : SV → Prop
  | .int k n => k.has n
  | .str s => s.size ≤ 9223372036854775807
  | .sl _ t _ xs => WF (.sl t) xs
  | .rp _ t x _ => WF t x
  | _ => True
def AV.wf : AV → Prop
  | .one v => v.wf
  | .agg cs => ∀ c ∈ cs, c.wf
  | .own cs => ∀ c ∈ cs, c.wf
  | .arr _ t xs => WF (.sl t) xs
  | _ => True
section
variable {w : World} {μ : Locs} {ok : OK}
theorem SVRel.wf {x : SV} {v : Value} (h : SVRel w μ ok x v) : x.wf := by
  cases x with
  | int k n => exact h.2
  | str s => exact h.2
  | sl f t nl xs => exact h.1.wf
  | rp f t x off => obtain ⟨b, o, cs, _, _, h, _⟩ := h; exact h.wf
  | _ => trivial
theorem all2_wf {cs : List SV} {vs : List Value} (h : All2 (SVRel w μ ok) cs vs) : ∀ c ∈ cs, c.wf := by
  induction h with
  | nil => intro c hc; cases hc
  | cons h _ ih =>
    intro c hc
    rcases List.mem_cons.1 hc with rfl | hc
    · exact h.wf
    · exact ih c hc
theorem AVRel.wf {x : AV} {v : Value} (h : AVRel w μ ok x v) : x.wf := by
  cases x with
  | one x =>
    by_cases hj : x = .junk
    · subst hj; trivial
    · rw [AVRel.eq1 hj] at h; exact h.wf
  | agg cs => obtain ⟨vs, _, h⟩ := h; exact all2_wf h
  | tup l => trivial
  | own cs => exact h.elim
  | arr f t xs => exact h.elim
  | mapO f kt vt es => trivial
  | gho o => trivial
theorem OwnRel.wf {i : Nat} {x : AV} (h : OwnRel w μ ok i x) (ho : x.isOwner = true) : x.wf := by
  cases x with
  | own cs => obtain ⟨b, c, E, _, _, h⟩ := h; exact all2_wf h
  | arr f t xs =>
    obtain ⟨h1, h2, h3, h4⟩ := h
    refine ⟨by omega, fun x hx => ?_⟩
    rcases h4 with ⟨_, rfl, _⟩ | ⟨b, c, E, _, _, _, h4⟩
    · cases hx
    · obtain ⟨j, hj, rfl⟩ := List.getElem_of_mem hx
      obtain ⟨cs, h5, _⟩ := h4 j hj
      exact h5.wf
  | mapO f kt vt es => trivial
  | _ => cases ho
end
theorem GoodIO.of_wf {P : Program} {f : FuncId} {l : List AV} {p : Nat} {gs : List AV} {r : AV} {gs' : List AV} (hp : (∀ a ∈ l, a.wf) → (∀ g ∈ gs, g.isOwner = true → g.wf) → GoodIO P f l p gs r gs') : GoodIO P f l p gs r gs' := by
  intro w okA vs μ hA hl hO
  refine hp (fun a ha => ?_) (fun g hg ho => ?_) w okA vs μ hA hl hO
  · obtain ⟨k, hk, rfl⟩ := List.getElem_of_mem ha
    obtain ⟨v, _, h⟩ := hl.get k l[k] (List.getElem?_eq_getElem hk)
    exact h.wf
  · obtain ⟨k, hk, rfl⟩ := List.getElem_of_mem hg
    have := hO.own k
    have e : ownAt gs k = gs[k] := by unfold ownAt; simp [List.getD_eq_getElem?_getD, hk]
    rw [e] at this
    exact this.wf ho
theorem GoodS.io {P : Program} {f : FuncId} {g : List AV → Nat → List AV → Option (Bool × AV × List AV)} (hc : Callable P f) (h : ∀ l p gs r gs', (∀ a ∈ l, a.wf) → (∀ g ∈ gs, g.isOwner = true → g.wf) → g l p gs = some (true, r, gs') → GoodIO P f l p gs r gs') : GoodS P f (.io g) :=
  ⟨hc, fun l r h => (by cases h), fun l p gs r gs' hh => GoodIO.of_wf fun h1 h2 => h l p gs r gs' h1 h2 hh⟩

/-- It is called, for it has a body. -/
theorem callable_of {P : Program} {f : FuncId} {fn : Func} {c : Code} (hf : P.funcs[f]? = some fn) (hb : fn.body = some c) (hn : (fn.name == "runtime.NumGoroutine") = false) : Callable P f := by
  intro args w
  have hn' : ¬ fn.name = "runtime.NumGoroutine" := by simpa using hn
  simp [callFunc, hf, hb, hn']

end Go.AM
