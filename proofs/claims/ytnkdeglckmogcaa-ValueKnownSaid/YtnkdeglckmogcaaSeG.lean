/- The seat: how contracts are proved: runs, loops that count up. -/
import Derived.Test.YtnkdeglckmogcaaSeTab
import Derived.Test.YtnkdeglckmogcaaSeCom
set_option linter.unusedVariables false
set_option maxRecDepth 100000
namespace Go.AM.Seat
open Go Go.AM Go.Proofs

def body (f : Func) : Code := f.body.getD .skip
theorem bd {f : Func} (h : f.body.isSome = true) : f.body = some (body f) := by
  unfold body
  cases hb : f.body with
  | none => rw [hb] at h; cases h
  | some c => rfl
def noL : Lam AV := fun _ _ _ => none
theorem noLoops {ρ : Type} [Same ρ] {Γ : Orc} {Λ : Lam ρ} {ms : Lay} {c : Code} (h : loopsOf 0 c = []) : ∀ p ∈ loopsOf 0 c, LoopP tb Γ Λ ms p := by rw [h]; intro p hp; cases hp
theorem oneLoop {ρ : Type} [Same ρ] {Γ : Orc} {Λ : Lam ρ} {ms : Lay} {c : Code} {p0 : Nat × Code} (h : loopsOf 0 c = [p0]) (h0 : LoopP tb Γ Λ ms p0) : ∀ p ∈ loopsOf 0 c, LoopP tb Γ Λ ms p := by
  rw [h]; intro p hp; rw [List.mem_singleton.1 hp]; exact h0
/-- A function's run. -/
noncomputable def run (Γ : Orc) (Λ : Lam AV) (live : List (Nat × List (Nat × Dir))) (f : Func) (args : List AV) (ws : List WK) : Option AV :=
  aexec tb Γ Λ ⟨f.ntmps, 0, live⟩ (body f) 0 (st0 args f.ntmps) (KretW tb f.results.toList ws)
theorem good {Γ : Orc} (hΓ : OrcOk Try.prog Γ) {f : FuncId} {fn : Func} (hf : Try.prog.funcs[f]? = some fn) (hb : fn.body.isSome = true) (hname : (fn.name == "runtime.NumGoroutine") = false) (Λ : Lam AV) (live : List (Nat × List (Nat × Dir)))
    (hL : ∀ p ∈ loopsOf 0 (body fn), LoopP tb Γ Λ ⟨fn.ntmps, 0, live⟩ p) (ks : List AK) (hk : ks.length ≤ fn.ntmps) (ws : List WK) (g : ADen ks → Bool × AV) (h : ∀ x r, WFA ks x → g x = (true, r) → run Γ Λ live fn (encA ks x) ws = some r) (hlo : LoOk Γ fn.ntmps := by exact lo_none rfl) : GoodS Try.prog f (.fn ks g) :=
  goodS_of ws mixed tbOk hΓ hf (bd hb) hname rfl rfl ⟨fn.ntmps, 0, live⟩ rfl Λ hL ks hk g h hlo


def loop1 (f : Func) : Nat × Code := (loopsOf 0 (body f)).headD (0, .skip)
theorem twoLoops {ρ : Type} [Same ρ] {Γ : Orc} {Λ : Lam ρ} {ms : Lay} {c : Code} {p0 p1 : Nat × Code} (h : loopsOf 0 c = [p0, p1]) (h0 : LoopP tb Γ Λ ms p0) (h1 : LoopP tb Γ Λ ms p1) : ∀ p ∈ loopsOf 0 c, LoopP tb Γ Λ ms p := by
  rw [h]; intro p hp
  rcases List.mem_cons.1 hp with rfl | hp
  · exact h0
  · rw [List.mem_singleton.1 hp]; exact h1
theorem wrap64 {n : Int} (h : -9223372036854775808 ≤ n) (h' : n ≤ 9223372036854775807) : IntKind.i64.wrap n = n := i64_in n ⟨h, h'⟩
theorem wrapU_nonneg (n : Int) : 0 ≤ IntKind.u64.wrap n := by
  have := (wrap_has .u64 n).1
  simpa [IntKind.min, IntKind.signed] using this
theorem wrapU {n : Int} (h : 0 ≤ n) (h' : n ≤ 18446744073709551615) : IntKind.u64.wrap n = n := by
  unfold IntKind.wrap; simp [IntKind.signed, IntKind.bits]; omega
/-- Loops that count up. -/
theorem upLoop {α : Type} {n : Nat} {F : Nat → α → Int → Option AV} {G : Nat → α → Option AV} (h1 : ∀ fuel a, F (fuel + 1) a n = G n a)
    (h2 : ∀ a (j : Nat), j < n → (∃ a', (∀ fuel, F (fuel + 1) a j = F fuel a' ((j + 1 : Nat) : Int)) ∧ G j a = G (j + 1) a') ∨ (∀ fuel, F (fuel + 1) a j = G j a)) :
    ∀ (m j : Nat) (a : α) (out : AV), j + m = n → G j a = some out → ∃ fuel, F fuel a j = some out := by
  intro m
  induction m with
  | zero =>
    intro j a out hj h
    obtain rfl : j = n := by omega
    exact ⟨1, (h1 0 a).trans h⟩
  | succ m ih =>
    intro j a out hj h
    rcases h2 a j (by omega) with ⟨a', g1, g2⟩ | g
    · obtain ⟨fuel, hf⟩ := ih (j + 1) a' out (by omega) (g2 ▸ h)
      exact ⟨fuel + 1, (g1 fuel).trans hf⟩
    · exact ⟨1, (g 0).trans h⟩
theorem lt_dec {j n : Nat} (h : j < n) : decide ((j : Int) < (n : Int)) = true := by simp; omega
theorem nlt_dec (n : Nat) : decide ((n : Int) < (n : Int)) = false := by simp
theorem inB_lt {j n : Nat} (h : j < n) : inB (j : Int) n = true := by simp [inB]; omega

/-- A function's run, its rows handed back. -/
noncomputable def runIO (Γ : Orc) (Λ : Lam (AV × List AV)) (g : Nat) (live : List (Nat × List (Nat × Dir))) (f : Func) (args gs : List AV) (p : Nat) (ws : List WK) : Option (AV × List AV) :=
  aexec tb Γ Λ ⟨f.ntmps, g, live⟩ (body f) 0 (st0 args f.ntmps ++ gs.map fun o => .gho o.ov) (KretIO tb f.ntmps p f.results.toList ws)
def noL2 : Lam (AV × List AV) := fun _ _ _ => none
theorem noLoops2 {Γ : Orc} {Λ : Lam (AV × List AV)} {ms : Lay} {c : Code} (h : loopsOf 0 c = []) : ∀ p ∈ loopsOf 0 c, LoopP tb Γ Λ ms p := by rw [h]; intro p hp; cases hp
theorem goodIO0 {Γ : Orc} (hΓ : OrcOk Try.prog Γ) {f : FuncId} {fn : Func} (hf : Try.prog.funcs[f]? = some fn) (hb : fn.body.isSome = true) (Λ : Lam (AV × List AV)) (g : Nat) (live : List (Nat × List (Nat × Dir)))
    (hL : ∀ p ∈ loopsOf 0 (body fn), LoopP tb Γ Λ ⟨fn.ntmps, g, live⟩ p) (args : List AV) (hys : renAs true (fun k => some (fn.ntmps + k)) args = some args) (hl : args.length ≤ fn.ntmps) (ws : List WK) {r : AV} {gs' : List AV}
    (h : runIO Γ Λ g live fn args [] 0 ws = some (r, gs')) (hlo : LoOk Γ (fn.ntmps + 0) := by exact lo_none rfl) : GoodIO Try.prog f args 0 [] r gs' :=
  good_ofIO mixed tbOk hΓ hf (bd hb) rfl rfl args [] 0 hys (hs := []) rfl rfl (Nat.zero_le _) hl ⟨fn.ntmps, g, live⟩ rfl (Nat.zero_le _) Λ hL ws h hlo

/-- With what it is given. -/
theorem goodIO1 {Γ : Orc} (hΓ : OrcOk Try.prog Γ) {f : FuncId} {fn : Func} (hf : Try.prog.funcs[f]? = some fn) (hb : fn.body.isSome = true) (Λ : Lam (AV × List AV)) (g : Nat) (live : List (Nat × List (Nat × Dir)))
    (hL : ∀ p ∈ loopsOf 0 (body fn), LoopP tb Γ Λ ⟨fn.ntmps, g, live⟩ p) (args gs : List AV) (p : Nat) {ys hs : List AV} (hys : renAs true (fun k => some (fn.ntmps + k)) args = some ys) (hhs : renAs true (fun k => some (fn.ntmps + k)) gs = some hs)
    (hgo : gs.all AV.isOwner = true) (hp : p ≤ gs.length) (hl : args.length ≤ fn.ntmps) (hmg : gs.length ≤ g) (ws : List WK) {r : AV} {gs' : List AV}
    (h : runIO Γ Λ g live fn ys hs p ws = some (r, gs')) (hlo : LoOk Γ (fn.ntmps + p) := by exact lo_none rfl) : GoodIO Try.prog f args p gs r gs' :=
  good_ofIO mixed tbOk hΓ hf (bd hb) rfl rfl args gs p hys hhs hgo hp hl ⟨fn.ntmps, g, live⟩ rfl hmg Λ hL ws h hlo
/-- A function's run, with room for rows of those it calls. -/
noncomputable def runG (Γ : Orc) (Λ : Lam AV) (g : Nat) (live : List (Nat × List (Nat × Dir))) (f : Func) (args : List AV) (ws : List WK) : Option AV :=
  aexec tb Γ Λ ⟨f.ntmps, g, live⟩ (body f) 0 (st0 args f.ntmps) (KretW tb f.results.toList ws)
theorem goodG {Γ : Orc} (hΓ : OrcOk Try.prog Γ) {f : FuncId} {fn : Func} (hf : Try.prog.funcs[f]? = some fn) (hb : fn.body.isSome = true) (hname : (fn.name == "runtime.NumGoroutine") = false) (Λ : Lam AV) (G : Nat) (live : List (Nat × List (Nat × Dir)))
    (hL : ∀ p ∈ loopsOf 0 (body fn), LoopP tb Γ Λ ⟨fn.ntmps, G, live⟩ p) (ks : List AK) (hk : ks.length ≤ fn.ntmps) (ws : List WK) (g : ADen ks → Bool × AV) (h : ∀ x r, WFA ks x → g x = (true, r) → runG Γ Λ G live fn (encA ks x) ws = some r) (hlo : LoOk Γ fn.ntmps := by exact lo_none rfl) : GoodS Try.prog f (.fn ks g) :=
  goodS_of ws mixed tbOk hΓ hf (bd hb) hname rfl rfl ⟨fn.ntmps, G, live⟩ rfl Λ hL ks hk g h hlo
end Go.AM.Seat
