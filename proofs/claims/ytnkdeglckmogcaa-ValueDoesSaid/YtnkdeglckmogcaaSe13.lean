/- The seat: contracts: the law of what values do. -/
import Derived.Test.YtnkdeglckmogcaaSe12
set_option linter.unusedVariables false
set_option maxRecDepth 100000
namespace Go.AM.Seat
open Go Go.AM Go.Proofs

theorem g21v : GoodS Try.prog N21 s20 := by
  have e : s21 = s20 := by
    unfold s21 s20
    congr 1
    funext x
    rw [atomR_eq]
  rw [← e]; exact g21
theorem g23v : GoodS Try.prog N23 s22 := by
  have e : s23 = s22 := by
    unfold s23 s22
    congr 1
    funext x
    rw [partVR_eq]
  rw [← e]; exact g23
theorem g24v : GoodS Try.prog N24 s17 := by
  have e : s24 = s17 := by
    unfold s24 s17
    congr 1
    funext x
    rw [wrapVR_eq]
  rw [← e]; exact g24 g57
theorem g25v : GoodS Try.prog N25 s18 := by
  have e : s25 = s18 := by
    unfold s25 s18
    congr 1
    funext x
    rw [unwrapVR_eq]
  rw [← e]; exact g25 g58
theorem g27v : GoodS Try.prog N27 s19 := by
  have e : s27 = s19 := by
    unfold s27 s19
    congr 1
    funext x
    rw [checkVR_eq]
  rw [← e]; exact g27

/-- A function's run, with room for rows of those it calls. -/
noncomputable def runG (Γ : Orc) (Λ : Lam AV) (g : Nat) (live : List (Nat × List (Nat × Dir))) (f : Func) (args : List AV) (ws : List WK) : Option AV :=
  aexec tb Γ Λ ⟨f.ntmps, g, live⟩ (body f) 0 (st0 args f.ntmps) (KretW tb f.results.toList ws)
theorem goodG {Γ : Orc} (hΓ : OrcOk Try.prog Γ) {f : FuncId} {fn : Func} (hf : Try.prog.funcs[f]? = some fn) (hb : fn.body.isSome = true) (hname : (fn.name == "runtime.NumGoroutine") = false) (Λ : Lam AV) (G : Nat) (live : List (Nat × List (Nat × Dir)))
    (hL : ∀ p ∈ loopsOf 0 (body fn), LoopP tb Γ Λ ⟨fn.ntmps, G, live⟩ p) (ks : List AK) (hk : ks.length ≤ fn.ntmps) (ws : List WK) (g : ADen ks → Bool × AV) (h : ∀ x r, WFA ks x → g x = (true, r) → runG Γ Λ G live fn (encA ks x) ws = some r) : GoodS Try.prog f (.fn ks g) :=
  goodS_of ws mixed tbOk hΓ hf (bd hb) hname rfl rfl ⟨fn.ntmps, G, live⟩ rfl Λ hL ks hk g h

def Γ4 : Orc := orc [(N16, s16), (N17, s17io), (N18, s18), (N19, s19), (N20, s20), (N22, s22), (N21, s20), (N23, s22), (N24, s17), (N25, s18), (N26, s26), (N27, s19)]
theorem Γ4ok : OrcOk Try.prog Γ4 := .cons g16 (.cons g17io (.cons g18 (.cons g19 (.cons g20 (.cons g22 (.cons g21v (.cons g23v (.cons g24v (.cons g25v (.cons g26 (.cons g27v (.nil _))))))))))))
abbrev live4 : List (Nat × Dir) := [(0, .keep), (15, .keep), (16, .keep), (30, .keep), (39, .keep), (175, .keep), (176, .keep), (47, .keep), (197, .keep)]
def bump (t : Term.D) : Term.D := (IntKind.i64.wrap (t.1 + 1), t.2)
def vs4 (l was m : List Term.D) (up okk : Bool) (n i : Int) : List AV :=
  [.one (.sl false Term none l), .one (.bool up), .one (.hot 47 none), .one (.hot 197 none), .one (.bool okk), .one (.int .i64 n), .one (.int .i64 i), .arr true Term was, .gho (.arr true Term m)]
def Λ4 : Lam AV := fun cur vs K =>
  match cur, vs with
  | 0, [.one (.sl false (.pair (.int .i64) (.pair (.int .i64) (.int .i64))) none l), .one (.bool up), .one (.hot 47 none), .one (.hot 197 none), .one (.bool okk), .one (.int .i64 n), .one (.int .i64 0),
      .arr true (.pair (.int .i64) (.pair (.int .i64) (.int .i64))) was, .gho (.arr true (.pair (.int .i64) (.pair (.int .i64) (.int .i64))) m)] =>
    bif decide (n = m.length) && decide (n ≤ 9223372036854775807) then K (.exit 0) (vs4 l was (m.map bump) up okk n n) else none
  | _, _ => none
theorem step4 (l was m : List Term.D) (up okk : Bool) (n i : Int) (K : AE → List AV → Option AV) (fuel : Nat) :
    loopN (aexec tb Γ4 Λ4 ⟨197, 1, [(0, live4)]⟩ (loop1 F4).2 0) 197 1 live4 K (fuel + 1) (vs4 l was m up okk n i) =
    bif decide (i < n) then
      bif inB i m.length then
        bif inB i m.length then loopN (aexec tb Γ4 Λ4 ⟨197, 1, [(0, live4)]⟩ (loop1 F4).2 0) 197 1 live4 K fuel (vs4 l was (m.set i.toNat (bump (tAt m i))) up okk n (IntKind.i64.wrap (i + 1)))
        else none
      else none
    else K (.exit 0) (vs4 l was m up okk n i) := by kernel_rfl
theorem bump_step (m : List Term.D) (j : Nat) (hj : j < m.length) : m.take j ++ (m.drop j).map bump = (m.set j (bump (tAt m j))).take (j + 1) ++ ((m.set j (bump (tAt m j))).drop (j + 1)).map bump := by
  have hA : (m.take j ++ [bump (tAt m j)]).length = j + 1 := by simp; omega
  have hs : m.set j (bump (tAt m j)) = (m.take j ++ [bump (tAt m j)]) ++ m.drop (j + 1) := by
    rw [List.set_eq_take_append_cons_drop, if_pos hj, List.append_assoc]; rfl
  rw [hs, List.take_left' hA, List.drop_left' hA, tAt_drop hj, List.map_cons, List.append_assoc]; rfl
theorem loop4 : LoopP tb Γ4 Λ4 ⟨197, 1, [(0, live4)]⟩ (loop1 F4) := by
  intro vs K out h
  have hcur : (loop1 F4).1 = 0 := by kernel_rfl
  rw [hcur] at h ⊢
  unfold Λ4 at h
  split at h
  · rename_i l up okk n was m _
    cases hc : (decide (n = m.length) && decide (n ≤ 9223372036854775807)) with
    | false => rw [hc] at h; cases h
    | true =>
      rw [hc] at h
      simp only [cond_true] at h
      simp only [Bool.and_eq_true, decide_eq_true_eq] at hc
      obtain ⟨rfl, hmax⟩ := hc
      obtain ⟨N, hN⟩ : ∃ N, N = m.length := ⟨_, rfl⟩
      rw [← hN] at h hmax ⊢
      refine upLoop (α := { m' : List Term.D // m'.length = N }) (n := N) (F := fun fuel m' i => loopN (aexec tb Γ4 Λ4 ⟨197, 1, [(0, live4)]⟩ (loop1 F4).2 0) 197 1 live4 K fuel (vs4 l was m'.1 up okk N i))
        (G := fun j m' => K (.exit 0) (vs4 l was (m'.1.take j ++ (m'.1.drop j).map bump) up okk N N)) (fun fuel m' => ?_) (fun m' j hj => ?_) N 0 ⟨m, hN.symm⟩ out (by omega) h
      · obtain ⟨m', hm⟩ := m'
        have e1 : m'.take N = m' := List.take_of_length_le (by omega)
        have e2 : m'.drop N = [] := List.drop_of_length_le (by omega)
        simp only [step4, nlt_dec, cond_false, e1, e2, List.map_nil, List.append_nil]
      · obtain ⟨m', hm⟩ := m'
        have hj' : j < m'.length := by omega
        left; refine ⟨⟨m'.set j (bump (tAt m' j)), by simpa using hm⟩, fun fuel => ?_, ?_⟩
        · simp only [step4, lt_dec hj, inB_lt hj', cond_true, Int.toNat_natCast]
          rw [wrap64 (by omega) (by omega)]; rfl
        · simp only [bump_step m' j hj']
  · cases h
--CUT
end Go.AM.Seat
