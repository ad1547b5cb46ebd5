/- The seat: contracts whose slice the caller may write: terms made, values wrapped. -/
import Derived.Test.YtnkdeglckmogcaaPlRef2
set_option linter.unusedVariables false
set_option maxRecDepth 100000
namespace Go.AM.Seat
open Go Go.AM Go.Proofs

/-- A function's run, its rows handed back. -/
noncomputable def runIO (Γ : Orc) (Λ : Lam (AV × List AV)) (g : Nat) (live : List (Nat × List (Nat × Dir))) (f : Func) (args gs : List AV) (p : Nat) (ws : List WK) : Option (AV × List AV) :=
  aexec tb Γ Λ ⟨f.ntmps, g, live⟩ (body f) 0 (st0 args f.ntmps ++ gs.map fun o => .gho o.ov) (KretIO tb f.ntmps p f.results.toList ws)
def noL2 : Lam (AV × List AV) := fun _ _ _ => none
theorem noLoops2 {Γ : Orc} {Λ : Lam (AV × List AV)} {ms : Lay} {c : Code} (h : loopsOf 0 c = []) : ∀ p ∈ loopsOf 0 c, LoopP tb Γ Λ ms p := by rw [h]; intro p hp; cases hp
theorem goodIO0 {Γ : Orc} (hΓ : OrcOk Try.prog Γ) {f : FuncId} {fn : Func} (hf : Try.prog.funcs[f]? = some fn) (hb : fn.body.isSome = true) (Λ : Lam (AV × List AV)) (g : Nat) (live : List (Nat × List (Nat × Dir)))
    (hL : ∀ p ∈ loopsOf 0 (body fn), LoopP tb Γ Λ ⟨fn.ntmps, g, live⟩ p) (args : List AV) (hys : renAs true (fun k => some (fn.ntmps + k)) args = some args) (hl : args.length ≤ fn.ntmps) (ws : List WK) {r : AV} {gs' : List AV}
    (h : runIO Γ Λ g live fn args [] 0 ws = some (r, gs')) : GoodIO Try.prog f args 0 [] r gs' :=
  good_ofIO mixed tbOk hΓ hf (bd hb) rfl rfl args [] 0 hys (hs := []) rfl rfl (Nat.zero_le _) hl ⟨fn.ntmps, g, live⟩ rfl (Nat.zero_le _) Λ hL ws h

/-! ### term.Make -/
abbrev wRow : List WK := [.id, .arr Term, .id]
def rowR (i : Int) (e : Int) : AV := .tup [(false, [.int .i64 i]), (false, [.hot 0 none]), (false, [.int .i64 e])]
abbrev lt (l : List Term.D) (t : Term.D) : List AV := encA [.v (.sl Term), .v Term] (l, t)
theorem r84io (l : List Term.D) (t : Term.D) : runIO Γ84 noL2 0 [] F84 (lt l t) [] 0 wRow =
    bif (findL l t).2 == 0 then (bif small24 l.length then some (rowR (findL l t).1 0, [.arr true Term l]) else none) else
    bif (findL l t).2 != 4 then some (rowR 0 (findL l t).2, [.arr true Term []]) else
    bif (l.length : Int) == 65536 then some (rowR 0 6, [.arr true Term []]) else
    bif small24 l.length then (bif decide ((l.length + [t].length) * 24 ≤ 140737488355328) then some (rowR l.length 0, [.arr true Term (l ++ [t])]) else none) else none := by kernel_rfl
def s84io : Sp := .io fun a p gs => match a, p, gs with
  | [.one (.sl false (.pair (.int .i64) (.pair (.int .i64) (.int .i64))) none l), .agg [.int .i64 x, .int .i64 y, .int .i64 z]], 0, [] =>
    some (true, rowR (makeL l (x, y, z)).1 (makeL l (x, y, z)).2.2, [.arr true Term (makeL l (x, y, z)).2.1])
  | _, _, _ => none
theorem make_run (l : List Term.D) (t : Term.D) : runIO Γ84 noL2 0 [] F84 (lt l t) [] 0 wRow = some (rowR (makeL l t).1 (makeL l t).2.2, [.arr true Term (makeL l t).2.1]) := by
  rw [r84io]
  simp only [makeL]
  cases h0 : (findL l t).2 == 0 with
  | true =>
    rw [small_of (ixL_len (findL_ok (.inl (eq_of_beq h0))))]; rfl
  | false =>
    cases h4 : (findL l t).2 != 4 with
    | true => rfl
    | false =>
      have hl := ixL_len (findL_ok (.inr (by simpa using h4)))
      cases (l.length : Int) == 65536 with
      | true => rfl
      | false =>
        have : decide ((l.length + [t].length) * 24 ≤ 140737488355328) = true := decide_eq_true (by simp; omega)
        rw [small_of hl, this]; rfl
theorem g84io : GoodS Try.prog N84 s84io := by
  refine GoodS.io (callable_of H84 (bd rfl) (by kernel_rfl)) fun a p gs r gs' hw1 hw2 h => ?_
  clear hw1 hw2
  split at h
  · rename_i l x y z
    cases h
    exact goodIO0 (.cons g47 (.cons g103 (.nil _))) H84 rfl noL2 0 [] (noLoops2 (by kernel_rfl)) (lt l (x, y, z)) rfl (by show 2 ≤ _; decide) wRow (make_run l (x, y, z))
  · cases h

/-! ### value.made -/
def rowV (v : Value.D) (e : Int) : AV := .tup [(true, enc Value true v), (false, [.hot 0 none]), (false, [.int .i64 e])]
def Γ45io : Orc := orc [(N84, s84io)]
theorem r45io (l : List Term.D) (t : Term.D) : runIO Γ45io noL2 0 [] F45 (lt l t) [] 0 wRow =
    bif (makeL l t).2.2 != 0 then some (rowV zeroV (makeL l t).2.2, [.arr true Term []]) else some (rowV (symV (makeL l t).1) 0, [.arr true Term (makeL l t).2.1]) := by kernel_rfl
def s45io : Sp := .io fun a p gs => match a, p, gs with
  | [.one (.sl false (.pair (.int .i64) (.pair (.int .i64) (.int .i64))) none l), .agg [.int .i64 x, .int .i64 y, .int .i64 z]], 0, [] =>
    some (true, rowV (madeV l (x, y, z)).1 (madeV l (x, y, z)).2.2, [.arr true Term (madeV l (x, y, z)).2.1])
  | _, _, _ => none
theorem g45io : GoodS Try.prog N45 s45io := by
  refine GoodS.io (callable_of H45 (bd rfl) (by kernel_rfl)) fun a p gs r gs' hw1 hw2 h => ?_
  clear hw1 hw2
  split at h
  · rename_i l x y z
    cases h
    refine goodIO0 (.cons g84io (.nil _)) H45 rfl noL2 0 [] (noLoops2 (by kernel_rfl)) (lt l (x, y, z)) rfl (by show 2 ≤ _; decide) wRow ((r45io l (x, y, z)).trans ?_)
    simp only [madeV]
    cases (makeL l (x, y, z)).2.2 != 0 <;> rfl
  · cases h

/-! ### value.Wrap -/
def Γ17io : Orc := orc [(N44, s44), (N45, s45io), (N46, s46), (N47, s47)]
theorem r17io (l : List Term.D) (k v : Value.D) : runIO Γ17io noL2 1 [] F17 (encA V3 (l, k, v)) [] 0 wRow =
    bif isV l [false, false] [k, v] != 0 then some (rowV zeroV (isV l [false, false] [k, v]), [.arr true Term []]) else
    bif k.1 then some (rowV (madeV l (5, k.2.2.2.2, v.2.2.2.2)).1 (madeV l (5, k.2.2.2.2, v.2.2.2.2)).2.2, [.arr true Term (madeV l (5, k.2.2.2.2, v.2.2.2.2)).2.1]) else
    bif small24 l.length then some (rowV (sealV (wrapB k.2.2.1 v.2.2.1)) 0, [.arr true Term l]) else none := by kernel_rfl
def s17io : Sp := .io fun a p gs => match a, p, gs with
  | [.one (.sl false (.pair (.int .i64) (.pair (.int .i64) (.int .i64))) none l), .agg [.bool k1, .bool k2, .int .u64 k3, .int .u64 k4, .int .u64 k5, .int .u64 k6, .int .u64 k7, .int .u64 k8, .int .i64 k9],
      .agg [.bool v1, .bool v2, .int .u64 v3, .int .u64 v4, .int .u64 v5, .int .u64 v6, .int .u64 v7, .int .u64 v8, .int .i64 v9]], 0, [] =>
    let k : Value.D := (k1, k2, (k3, k4), ((k5, k6), (k7, k8)), k9)
    let v : Value.D := (v1, v2, (v3, v4), ((v5, v6), (v7, v8)), v9)
    some (true, rowV (wrapV l k v).1 (wrapV l k v).2.2, [.arr true Term (wrapV l k v).2.1])
  | _, _, _ => none
theorem wrap_run (l : List Term.D) (k v : Value.D) : runIO Γ17io noL2 1 [] F17 (encA V3 (l, k, v)) [] 0 wRow = some (rowV (wrapV l k v).1 (wrapV l k v).2.2, [.arr true Term (wrapV l k v).2.1]) := by
  rw [r17io]
  simp only [wrapV]
  cases h0 : isV l [false, false] [k, v] != 0 with
  | true => rfl
  | false =>
    cases k.1 with
    | true => rfl
    | false =>
      have hz : isV l [false, false] [k, v] = 0 := by simpa using h0
      rw [small_of (checkL_small (checkV_zero.1 (isV_two.1 hz).1).1)]; rfl
theorem g17io : GoodS Try.prog N17 s17io := by
  refine GoodS.io (callable_of H17 (bd rfl) (by kernel_rfl)) fun a p gs r gs' hw1 hw2 h => ?_
  clear hw1 hw2
  split at h
  · rename_i l k1 k2 k3 k4 k5 k6 k7 k8 k9 v1 v2 v3 v4 v5 v6 v7 v8 v9
    cases h
    exact goodIO0 (.cons g44 (.cons g45io (.cons g46 (.cons g47 (.nil _))))) H17 rfl noL2 1 [] (noLoops2 (by kernel_rfl)) (encA V3 (l, (k1, k2, (k3, k4), ((k5, k6), (k7, k8)), k9), (v1, v2, (v3, v4), ((v5, v6), (v7, v8)), v9))) rfl (by show 3 ≤ _; decide) wRow
      (wrap_run l (k1, k2, (k3, k4), ((k5, k6), (k7, k8)), k9) (v1, v2, (v3, v4), ((v5, v6), (v7, v8)), v9))
  · cases h
end Go.AM.Seat
