/- The seat: the example that each law of terms runs: what it comes to. -/
import Derived.Test.YtoeijiackpanoaaDoorSeLv5
set_option linter.unusedVariables false
set_option maxRecDepth 100000
namespace Go.AM.Seat
open Go Go.AM Go.Proofs

theorem g533b : GoodS Tryd.prog N533 (.io wr1) := by
  refine GoodS.io (callable_of H533 (bd (by kernel_rfl)) (by kernel_rfl)) fun l p gs r gs' _ _ h => ?_
  obtain ⟨b, hb, rfl, rfl, rfl, rfl, rfl⟩ := wr1_some h
  refine goodIO1 (.cons g533a (.cons g74 (.nil _))) H533 rfl (Λ533 0 100 ([97] ++ [48])) 1 [(0, lv533)] (oneLoop (p0 := (loopsOf 0 (body F533)).getD 0 (0, .skip)) (by kernel_rfl) (loop533 fun b K => ((st533b b K).trans (by rw [more_b])))) [hot0, slT none L0, iV 1] [rowF b] 0 rfl rfl rfl (Nat.zero_le _) (by decide) (Nat.le_refl _) [] ((r533b b).trans ?_)
  have := lenOk_le hb
  have h2 : lenOk ((b ++ [82, 40]).length + 100) = true := decide_eq_true (by simp; omega)
  have e : List.append (b ++ [82, 40]) ([97] ++ [48]) = b ++ [82, 40] ++ [97] ++ [48] := (more_b _).symm
  have h3 : decide ((b.length + ([82, 40] : List Int).length) * 1 ≤ 140737488355328) = true := decide_eq_true (by simp; omega)
  have h4 : decide (((b ++ [82, 40] ++ [97] ++ [48]).length + 1) * 1 ≤ 140737488355328) = true := decide_eq_true (by simp; omega)
  rw [bytes_a.2.1, h3, h2, e, h4]
  rfl
theorem g533c : GoodS Tryd.prog N533 (.io wr2) := by
  refine GoodS.io (callable_of H533 (bd (by kernel_rfl)) (by kernel_rfl)) fun l p gs r gs' _ _ h => ?_
  obtain ⟨rfl, rfl, rfl, rfl, rfl⟩ := wr2_some h
  refine goodIO1 (.cons g533b (.cons g74 (.nil _))) H533 rfl (Λ533 1 200 ([82, 40] ++ [97] ++ [48] ++ [41])) 0 [(0, lv533)] (oneLoop (p0 := (loopsOf 0 (body F533)).getD 0 (0, .skip)) (by kernel_rfl) (loop533 fun b K => ((st533c b K).trans (by rw [more_c])))) [.one .nils, slT none L0, iV 2] [] 0 rfl rfl rfl (Nat.zero_le _) (by decide) (Nat.le_refl _) [] (r533c.trans ?_)
  rw [bytes_a.2.2]; rfl
def s73x (l : List AV) : Option (Bool × AV) := match l with
  | [.one (.sl false (.pair (.int .i64) (.pair (.int .i64) (.int .i64))) none [(1, 0, 0), (3, 0, 0), (4, 1, 0)]), .one (.int .i64 2)] => some (true, iV 0)
  | _ => none
theorem r73x : run (orc [(N49, s49)]) noL [] F73 [slT none L0, iV 2] [] = some (iV 0) := by kernel_rfl
theorem g73x : GoodS Tryd.prog N73 (.raw s73x) := goodRaw H73 rfl (by kernel_rfl) fun l r h => by
  unfold s73x at h
  split at h
  · cases h
    exact goodRun (.cons g49 (.nil _)) H73 rfl noL [] (noLoops (by kernel_rfl)) _ (by decide) [] r73x
  · cases h
def s532x (l : List AV) : Option (Bool × AV) := match l with
  | [.one (.sl false (.pair (.int .i64) (.pair (.int .i64) (.int .i64))) none [(1, 0, 0), (3, 0, 0), (4, 1, 0)]), .one (.int .i64 2)] => some (true, .one (.sl true I none [2, 5, 8]))
  | _ => none
theorem Γ532ok : OrcOk Tryd.prog Γ532 := .cons g540 (.cons g74 (.nil _))
theorem g532x : GoodS Tryd.prog N532 (.raw s532x) := goodRaw H532 rfl (by kernel_rfl) fun l r h => by
  unfold s532x at h
  split at h
  · cases h
    exact goodRun Γ532ok H532 rfl Λ532 live532 (twoLoops (p0 := (loopsOf 0 (body F532)).getD 0 (0, .skip)) (p1 := (loopsOf 0 (body F532)).getD 1 (0, .skip)) (by kernel_rfl) loop532a loop532b) _ (by decide) [.sl true I] r532
  · cases h
/-- "K(R(a0))" -/
def text0 : ByteArray := ⟨#[75, 40, 82, 40, 97, 48, 41, 41]⟩
def txt (s : ByteArray) : AV := .tup [(false, [.str s]), (false, [.int .i64 0])]
def s517x (l : List AV) : Option (Bool × AV) := match l with
  | [.one (.sl false (.pair (.int .i64) (.pair (.int .i64) (.int .i64))) none [(1, 0, 0), (3, 0, 0), (4, 1, 0)]), .one (.int .i64 2)] => some (true, txt text0)
  | _ => none
def Γ517 : Orc := orc [(N73, .raw s73x), (N532, .raw s532x), (N533, .io wr2)]
theorem r517x : runG Γ517 noL 0 [] F517 [slT none L0, iV 2] [] = some (txt text0) := by kernel_rfl
theorem goodRunG {Γ : Orc} (hΓ : OrcOk Tryd.prog Γ) {f : FuncId} {fn : Func} (hf : Tryd.prog.funcs[f]? = some fn) (hb : fn.body.isSome = true) (Λ : Lam AV) (g : Nat) (live : List (Nat × List (Nat × Dir)))
    (hL : ∀ p ∈ loopsOf 0 (body fn), LoopP tb Γ Λ ⟨fn.ntmps, g, live⟩ p) (args : List AV) (hl : args.length ≤ fn.ntmps) (ws : List WK) {r : AV} (h : runG Γ Λ g live fn args ws = some r) (hlo : LoOk Γ fn.ntmps := by exact lo_none rfl) : Good Tryd.prog f args r :=
  good_of mixed tbOk hΓ hf (bd hb) rfl rfl args hl ⟨fn.ntmps, g, live⟩ rfl Λ hL (kretW_spec ws) h hlo
theorem g517x : GoodS Tryd.prog N517 (.raw s517x) := goodRaw H517 rfl (by kernel_rfl) fun l r h => by
  unfold s517x at h
  split at h
  · cases h
    exact goodRunG (.cons g73x (.cons g532x (.cons g533c (.nil _)))) H517 rfl noL 0 [] (noLoops (by kernel_rfl)) _ (by decide) [] r517x
  · cases h
def nolist (r : AV) (l : List AV) : Option (Bool × AV) := match l with
  | [] => some (true, r)
  | _ => none
theorem nolist_some {x r : AV} {l : List AV} (h : nolist x l = some (true, r)) : l = [] ∧ r = x := by
  unfold nolist at h; split at h
  · cases h; exact ⟨rfl, rfl⟩
  · cases h
/-- What takes nothing and answers true. -/
def sLive : Sp := .raw (nolist (.one (.bool true)))
end Go.AM.Seat
