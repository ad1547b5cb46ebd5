/- An abstract machine over the model's own code: contracts by typed arguments; a table of what functions come to. -/
import Derived.Test.YtnkdeglckmogcaaAmFn
set_option linter.unusedVariables false
set_option linter.unusedSimpArgs false
namespace Go.AM

/-- What data of a type are, when they come from the machine: numbers in their range, lengths that can be. -/
def WF : (t : Ty) → t.D → Prop
  | .int k, n => k.has n
  | .bool, _ => True
  | .str, s => s.size ≤ 9223372036854775807
  | .unit, _ => True
  | .pair a b, p => WF a p.1 ∧ WF b p.2
  | .sl t, xs => xs.length ≤ 9223372036854775807 ∧ ∀ x ∈ xs, WF t x

theorem TRel.wf {w : World} {okf : Nat → Prop} : ∀ {t : Ty} {x : t.D} {vs : List Value}, TRel w okf t x vs → WF t x
  | .int k, x, vs, h => h.2
  | .bool, x, vs, h => trivial
  | .str, x, vs, h => h.2
  | .unit, x, vs, h => trivial
  | .pair a b, x, vs, h => by
    obtain ⟨u, v, _, h1, h2⟩ := h
    exact ⟨TRel.wf h1, TRel.wf h2⟩
  | .sl t, xs, vs, h => by
    obtain ⟨A, c, e, h1, h2, h3⟩ := h
    refine ⟨by omega, fun x hx => ?_⟩
    obtain ⟨j, hj, rfl⟩ := List.getElem_of_mem hx
    rcases h3 with ⟨_, rfl, _⟩ | ⟨b, o, _, _, h3⟩
    · simp at hj
    · obtain ⟨cs, g1, _⟩ := h3 j hj
      exact TRel.wf g1

/-- An argument's kind: data of a type; anything. -/
inductive AK where
  | v (t : Ty)
  | raw

@[reducible] def AK.D : AK → Type
  | .v t => t.D
  | .raw => AV

def encV (t : Ty) (x : t.D) : AV :=
  match t, x with
  | .int k, n => .one (.int k n)
  | .bool, b => .one (.bool b)
  | .str, s => .one (.str s)
  | .unit, _ => .agg []
  | .sl t, xs => .one (.sl false t none xs)
  | .pair a b, p => .agg (enc (.pair a b) false p)

def AK.enc : (k : AK) → k.D → AV
  | .v t, x => encV t x
  | .raw, a => a

def decV (t : Ty) (a : AV) : Option t.D :=
  match toD t a with
  | some (x, _) => some x
  | none => none

def AK.dec : (k : AK) → AV → Option k.D
  | .v t, a => decV t a
  | .raw, a => some a

@[reducible] def ADen : List AK → Type
  | [] => Unit
  | [k] => k.D
  | k :: ks => k.D × ADen ks

def encA : (ks : List AK) → ADen ks → List AV
  | [], _ => []
  | [k], x => [k.enc x]
  | k :: k' :: ks, p => k.enc p.1 :: encA (k' :: ks) p.2

def decA : (ks : List AK) → List AV → Option (ADen ks)
  | [], [] => some ()
  | [k], [a] => k.dec a
  | k :: k' :: ks, a :: l =>
    match k.dec a, decA (k' :: ks) l with
    | some x, some y => some (x, y)
    | _, _ => none
  | _, _ => none

def WFA : (ks : List AK) → ADen ks → Prop
  | [], _ => True
  | [.v t], x => WF t x
  | [.raw], _ => True
  | .v t :: k' :: ks, p => WF t p.1 ∧ WFA (k' :: ks) p.2
  | .raw :: k' :: ks, p => WFA (k' :: ks) p.2

section
variable {w : World} {okA : Nat → Prop}

theorem argT : ∀ b, argOK okA true b → argOK okA false b := fun b h => by cases h.1

theorem enc_rel0 {t : Ty} {x : t.D} {vs : List Value} {f : Bool} (h : TRel w (argOK okA f) t x vs) : All2 (SVRel w μ0 (argOK okA)) (enc t false x) vs := by
  refine enc_rel (fr := false) (TRel.mono (fun _ _ => rfl) (fun b hb => ⟨rfl, hb.2⟩) h)

theorem encV_comp {t : Ty} {x : t.D} {v : Value} (h : compRel w μ0 (argOK okA) (t.isAgg, enc t false x) v) : AVRel w μ0 (argOK okA) (encV t x) v := by
  cases t with
  | int k => obtain ⟨y, e, h⟩ := h; simp only [enc, List.cons.injEq, and_true] at e; subst e; exact h
  | bool => obtain ⟨y, e, h⟩ := h; simp only [enc, List.cons.injEq, and_true] at e; subst e; exact h
  | str => obtain ⟨y, e, h⟩ := h; simp only [enc, List.cons.injEq, and_true] at e; subst e; exact h
  | sl t => obtain ⟨y, e, h⟩ := h; simp only [enc, List.cons.injEq, and_true] at e; subst e; exact h
  | unit => exact h
  | pair a b => exact h

theorem VRel.wf {okf : Nat → Prop} {t : Ty} {x : t.D} {v : Value} (h : VRel w okf t x v) : WF t x := by
  cases ha : t.isAgg with
  | true => rw [VRel.agg ha] at h; obtain ⟨vs, _, h⟩ := h; exact h.wf
  | false => rw [VRel.one ha] at h; exact h.wf

theorem decV_rel {t : Ty} {a : AV} {x : t.D} {v : Value} (h : AVRel w μ0 (argOK okA) a v) (hd : decV t a = some x) : AVRel w μ0 (argOK okA) (encV t x) v ∧ WF t x := by
  unfold decV at hd
  split at hd
  · rename_i x' f he
    cases hd
    have hv := toD_rel argT h he
    refine ⟨encV_comp (ofD_rel (hv.mono (fun _ _ => rfl) fun b hb => ?_)), hv.wf⟩
    exact ⟨rfl, hb.2⟩
  · cases hd

theorem decA_rel : ∀ {ks : List AK} {l : List AV} {x : ADen ks} {vs : List Value}, All2 (AVRel w μ0 (argOK okA)) l vs → decA ks l = some x → All2 (AVRel w μ0 (argOK okA)) (encA ks x) vs ∧ WFA ks x := by
  have one : ∀ {k : AK} {a : AV} {x : k.D} {v : Value}, AVRel w μ0 (argOK okA) a v → k.dec a = some x → AVRel w μ0 (argOK okA) (k.enc x) v := by
    intro k a x v h hd
    cases k with
    | v t => exact (decV_rel h hd).1
    | raw => cases hd; exact h
  intro ks
  induction ks with
  | nil =>
    intro l x vs h hd
    cases h with
    | nil => exact ⟨.nil, trivial⟩
    | cons _ _ => simp [decA] at hd
  | cons k ks ih =>
    intro l x vs h hd
    cases h with
    | nil => cases ks <;> simp [decA] at hd
    | @cons a v l vs ha hl =>
      cases ks with
      | nil =>
        cases hl with
        | nil =>
          refine ⟨.cons (one ha hd) .nil, ?_⟩
          cases k with
          | v t => exact (decV_rel ha hd).2
          | raw => trivial
        | cons _ _ => simp [decA] at hd
      | cons k' ks =>
        simp only [decA] at hd
        split at hd
        · rename_i x' y h1 h2
          cases hd
          obtain ⟨g1, g2⟩ := ih hl h2
          refine ⟨.cons (one ha h1) g1, ?_⟩
          cases k with
          | v t => exact ⟨(decV_rel ha h1).2, g2⟩
          | raw => exact g2
        · cases hd
end

/-- What a function comes to: by typed arguments; or as it is told. -/
inductive Sp where
  | fn (ks : List AK) (f : ADen ks → Bool × AV)
  | raw (g : List AV → Option (Bool × AV))

def Sp.run : Sp → List AV → Option (Bool × AV)
  | .fn ks f, l =>
    match decA ks l with
    | some x => some (f x)
    | none => none
  | .raw g, l => g l

def orc : List (FuncId × Sp) → Orc
  | [], _, _ => none
  | (a, s) :: r, f, l => bif Nat.beq a f then s.run l else orc r f l

/-- A TYPED CONTRACT. -/
def GoodS (P : Program) (f : FuncId) (s : Sp) : Prop := Callable P f ∧ ∀ l r, s.run l = some (true, r) → Good P f l r

theorem OrcOk.nil (P : Program) : OrcOk P (orc []) := fun f l r h => by cases h
theorem OrcOk.cons {P : Program} {f : FuncId} {s : Sp} {r : List (FuncId × Sp)} (h : GoodS P f s) (t : OrcOk P (orc r)) : OrcOk P (orc ((f, s) :: r)) := by
  intro g l v hv
  simp only [orc] at hv
  cases hb : Nat.beq f g with
  | true =>
    obtain rfl := Nat.eq_of_beq_eq_true hb
    rw [hb] at hv
    exact ⟨h.1, h.2 l v hv⟩
  | false =>
    rw [hb] at hv
    exact t g l v hv

/-- A contract is owed only at data that can be. -/
theorem Good.of_rel {P : Program} {f : FuncId} {l l' : List AV} {r : AV} {p : Prop} (h : ∀ (w : World) (okA : Nat → Prop) (vs : List Value), All2 (AVRel w μ0 (argOK okA)) l vs → All2 (AVRel w μ0 (argOK okA)) l' vs ∧ p) (hp : p → Good P f l' r) : Good P f l r := by
  intro w okA vs hA hl
  obtain ⟨h1, h2⟩ := h w okA vs hl
  exact hp h2 w okA vs hA h1

theorem GoodS.fn {P : Program} {f : FuncId} {ks : List AK} {g : ADen ks → Bool × AV} (hc : Callable P f) (h : ∀ x r, WFA ks x → g x = (true, r) → Good P f (encA ks x) r) : GoodS P f (.fn ks g) := by
  refine ⟨hc, fun l r hr => ?_⟩
  simp only [Sp.run] at hr
  split at hr
  · rename_i x hx
    simp only [Option.some.injEq] at hr
    exact Good.of_rel (fun w okA vs hl => decA_rel hl hx) fun hw => h x r hw hr
  · cases hr

/-- It is called, for it has a body. -/
theorem callable_of {P : Program} {f : FuncId} {fn : Func} {c : Code} (hf : P.funcs[f]? = some fn) (hb : fn.body = some c) (hn : (fn.name == "runtime.NumGoroutine") = false) : Callable P f := by
  intro args w
  have hn' : ¬ fn.name = "runtime.NumGoroutine" := by simpa using hn
  simp [callFunc, hf, hb, hn']

end Go.AM
