/- An abstract machine over the model's own code: answers of one shape, whatever the branch; contracts with them. -/
import Derived.Test.YtoeijiackpanoaaAmSpec
set_option linter.unusedVariables false
set_option linter.unusedSectionVars false
set_option linter.unusedSimpArgs false
namespace Go.AM

def wkOne : WK → AV → AV
  | .sl f0 t, .one v => .one (wkS f0 t v)
  | .sl f0 _, .arr fr t' xs => .one (.sl (fr && f0) t' none xs)
  | .arr t, .one .nils => .arr true t []
  | .mp f0 kt vt, .one v => .one (wkM f0 kt vt v)
  | .mp f0 kt vt, .mapO fr kt' vt' es => .one (.sm (fr && f0) kt' vt' es)
  | _, v => v
def wkComps : List WK → List (Bool × List SV) → List (Bool × List SV)
  | .sl f0 t :: ws, (false, [v]) :: r => (false, [wkS f0 t v]) :: wkComps ws r
  | .mp f0 kt vt :: ws, (false, [v]) :: r => (false, [wkM f0 kt vt v]) :: wkComps ws r
  | _ :: ws, p :: r => p :: wkComps ws r
  | [], l => l
  | _, [] => []
def wk (ws : List WK) (r : AV) : AV :=
  match r, ws with
  | .tup l, ws => .tup (wkComps ws l)
  | v, [w] => wkOne w v
  | v, _ => v

def KretW (tb : Tab) (rs : List ResultVar) (ws : List WK) (e : AE) (st : St) : Option AV :=
  match Kret tb rs e st with
  | some r => some (wk ws r)
  | none => none

section
variable {w w' : World} {okA : Nat → Prop} {μ : Locs} {ok : OK}

theorem wkComps_rel (hT : ∀ b, ok true b → ok false b) : ∀ {ws : List WK} {l : List (Bool × List SV)} {vs : List Value}, All2 (compRel w μ ok) l vs → All2 (compRel w μ ok) (wkComps ws l) vs := by
  intro ws
  induction ws with
  | nil => intro l vs h; cases l <;> exact h
  | cons k ws ih =>
    intro l vs h
    cases h with
    | nil => cases k <;> exact .nil
    | @cons p v l vs hp hl =>
      have keep : All2 (compRel w μ ok) (p :: wkComps ws l) (v :: vs) := .cons hp (ih hl)
      cases k with
      | id => exact keep
      | arr t => exact keep
      | mp f0 kt vt =>
        obtain ⟨f, cs⟩ := p
        cases f with
        | true => exact keep
        | false =>
          match cs, hp, keep with
          | [], _, keep => exact keep
          | [x], hp, _ =>
            obtain ⟨y, e, hy⟩ := hp
            simp only [List.cons.injEq, and_true] at e
            subst e
            exact .cons ⟨_, rfl, wkM_rel hT hy⟩ (ih hl)
          | _ :: _ :: _, _, keep => exact keep
      | sl f0 t =>
        obtain ⟨f, cs⟩ := p
        cases f with
        | true => exact keep
        | false =>
          match cs, hp, keep with
          | [], _, keep => exact keep
          | [x], hp, _ =>
            obtain ⟨y, e, hy⟩ := hp
            simp only [List.cons.injEq, and_true] at e
            subst e
            exact .cons ⟨_, rfl, wkS_rel hT hy⟩ (ih hl)
          | _ :: _ :: _, _, keep => exact keep

theorem wk_rel {ws : List WK} {r : AV} {v : Value} (h : ResRel w okA w' r v) : ResRel w okA w' (wk ws r) v := by
  obtain ⟨ok', h1, h2, h3⟩ := h
  cases r with
  | tup l =>
    obtain ⟨vs, e, hh⟩ := h3
    exact ⟨ok', h1, h2, vs, e, wkComps_rel h2 hh⟩
  | one x =>
    match ws with
    | [] => exact ⟨ok', h1, h2, h3⟩
    | _ :: _ :: _ => exact ⟨ok', h1, h2, h3⟩
    | [k] =>
      cases k with
      | id => exact ⟨ok', h1, h2, h3⟩
      | arr t =>
        cases x with
        | nils =>
          obtain rfl : v = .slice none 0 0 := h3
          exact ⟨ok', h1, h2, ⟨none, 0, 0⟩, rfl, ⟨rfl, Nat.le_refl _, by show (0 : Nat) ≤ _; omega, .inl ⟨rfl, rfl, rfl⟩⟩, fun b hb => by cases hb⟩
        | _ => exact ⟨ok', h1, h2, h3⟩
      | mp f0 kt vt =>
        refine ⟨ok', h1, h2, ?_⟩
        show AVRel w' μ0 ok' (.one (wkM f0 kt vt x)) v
        have h3 : AVRel w' μ0 ok' (.one x) v := h3
        by_cases hj : x = .junk
        · subst hj; trivial
        · rw [AVRel.eq1 hj] at h3
          rw [AVRel.eq1 (wkM_junk hj)]
          exact wkM_rel h2 h3
      | sl f0 t =>
        refine ⟨ok', h1, h2, ?_⟩
        show AVRel w' μ0 ok' (.one (wkS f0 t x)) v
        have h3 : AVRel w' μ0 ok' (.one x) v := h3
        by_cases hj : x = .junk
        · subst hj; trivial
        · rw [AVRel.eq1 hj] at h3
          rw [AVRel.eq1 (wkS_junk hj)]
          exact wkS_rel h2 h3
  | arr fr t xs =>
    match ws with
    | [] => exact ⟨ok', h1, h2, h3⟩
    | _ :: _ :: _ => exact ⟨ok', h1, h2, h3⟩
    | [.id] => exact ⟨ok', h1, h2, h3⟩
    | [.arr _] => exact ⟨ok', h1, h2, h3⟩
    | [.mp _ _ _] => exact ⟨ok', h1, h2, h3⟩
    | [.sl f0 _] =>
      obtain ⟨l, e1, e2, e3⟩ := h3
      refine ⟨fun f b => ok' f b ∨ l.b = some b, fun f b hb => ?_, fun b hb => hb.imp (h2 b) id, ?_⟩
      · rcases hb with hb | hb
        · exact h1 f b hb
        · exact .inl ⟨(e3 b hb).1, (e3 b hb).2.1⟩
      · refine ⟨?_, trivial⟩
        have hs := slv_rel (okA := fun b => ok' (fr && f0) b ∨ l.b = some b) e2 (fun b hb => .inl ?_) (fun b hb => .inr hb) xs.length (Nat.le_refl _)
        · rw [List.take_length] at hs
          rw [e1]
          have : slv l none = slv l (some xs.length) := by unfold slv; simp [e2.1]
          rw [this]
          exact hs
        · cases fr with
          | true => cases f0 with
            | true => exact hb
            | false => exact h2 b hb
          | false => exact hb
  | own cs =>
    match ws with
    | [] => exact ⟨ok', h1, h2, h3⟩
    | _ :: _ :: _ => exact ⟨ok', h1, h2, h3⟩
    | [.id] => exact ⟨ok', h1, h2, h3⟩
    | [.arr _] => exact ⟨ok', h1, h2, h3⟩
    | [.sl _ _] => exact ⟨ok', h1, h2, h3⟩
    | [.mp _ _ _] => exact ⟨ok', h1, h2, h3⟩
  | gho o => exact h3.elim
  | mapO fr kt' vt' es =>
    match ws with
    | [] => exact ⟨ok', h1, h2, h3⟩
    | _ :: _ :: _ => exact ⟨ok', h1, h2, h3⟩
    | [.id] => exact ⟨ok', h1, h2, h3⟩
    | [.arr _] => exact ⟨ok', h1, h2, h3⟩
    | [.sl _ _] => exact ⟨ok', h1, h2, h3⟩
    | [.mp f0 kt vt] =>
      obtain ⟨b, e1, e2, e3, e4, e5⟩ := h3
      refine ⟨fun f k => ok' f k ∨ k = b, fun f k hk => ?_, fun k hk => hk.imp (h2 k) id, ?_⟩
      · rcases hk with hk | rfl
        · exact h1 f k hk
        · exact .inl ⟨e3, e4⟩
      · have weak : ∀ k, ok' fr k → ok' (fr && f0) k ∨ k = b := fun k hb => .inl (by
          cases fr with
          | true => cases f0 with
            | true => exact hb
            | false => exact h2 k hb
          | false => exact hb)
        exact .inr ⟨b, e1, .inr rfl, e2.mono (fun _ _ => rfl) weak rfl⟩
  | agg cs =>
    match ws with
    | [] => exact ⟨ok', h1, h2, h3⟩
    | _ :: _ :: _ => exact ⟨ok', h1, h2, h3⟩
    | [.id] => exact ⟨ok', h1, h2, h3⟩
    | [.arr _] => exact ⟨ok', h1, h2, h3⟩
    | [.sl _ _] => exact ⟨ok', h1, h2, h3⟩
    | [.mp _ _ _] => exact ⟨ok', h1, h2, h3⟩
end

theorem kretW_spec {tb : Tab} {rs : List ResultVar} (ws : List WK) : ∀ e st r, KretW tb rs ws e st = some r → ∃ r0, Kret tb rs e st = some r0 ∧ ∀ w okA w' v, ResRel w okA w' r0 v → ResRel w okA w' r v := by
  intro e st r h
  unfold KretW at h
  split at h
  · rename_i r0 h0
    cases h
    exact ⟨r0, h0, fun _ _ _ _ h => wk_rel h⟩
  · cases h

/-- THE CONTRACT OF A FUNCTION, OUT OF ITS ABSTRACT RUN AT TYPED ARGUMENTS. -/
theorem goodS_of (ws : List WK) {P : Program} {tb : Tab} {Γ : Orc} (hM : P.follows .mixedOrders = true) (hP : TabOk P tb) (hΓ : OrcOk P Γ) {f : FuncId} {fn : Func} {c : Code} {n : Nat} {rs : List ResultVar} (hf : P.funcs[f]? = some fn) (hb : fn.body = some c)
    (hname : (fn.name == "runtime.NumGoroutine") = false) (hn : fn.ntmps = n) (hrs : fn.results.toList = rs) (ms : Lay) (hms : n = ms.n) (Λ : Lam AV) (hL : ∀ p ∈ loopsOf 0 c, LoopP tb Γ Λ ms p) (ks : List AK) (hk : ks.length ≤ n) (g : ADen ks → Bool × AV)
    (h : ∀ x r, WFA ks x → g x = (true, r) → aexec tb Γ Λ ms c 0 (st0 (encA ks x) n) (KretW tb rs ws) = some r) : GoodS P f (.fn ks g) := by
  refine GoodS.fn (callable_of hf hb hname) fun x r hw hg => ?_
  have hx := h x r hw hg
  have hlen : (encA ks x).length = ks.length := by
    clear hx h hg hw
    induction ks with
    | nil => rfl
    | cons k ks ih =>
      cases ks with
      | nil => rfl
      | cons k' ks => simp only [encA, List.length_cons]; rw [ih (by simp at hk ⊢; omega) (fun _ => (false, AV.junk)) x.2]; simp
  exact good_of hM hP hΓ hf hb hn hrs _ (by omega) ms hms Λ hL (kretW_spec ws) hx


end Go.AM
