/- The seat: the example that each law of terms runs: contracts at its own arguments. -/
import Derived.Test.YtoeijiackpanoaaDoorSl5
set_option linter.unusedVariables false
set_option maxRecDepth 100000
namespace Go.AM.Seat
open Go Go.AM Go.Proofs

/-- A contract at given arguments, out of the run. -/
theorem goodRun {Γ : Orc} (hΓ : OrcOk Tryd.prog Γ) {f : FuncId} {fn : Func} (hf : Tryd.prog.funcs[f]? = some fn) (hb : fn.body.isSome = true) (Λ : Lam AV) (live : List (Nat × List (Nat × Dir)))
    (hL : ∀ p ∈ loopsOf 0 (body fn), LoopP tb Γ Λ ⟨fn.ntmps, 0, live⟩ p) (args : List AV) (hl : args.length ≤ fn.ntmps) (ws : List WK) {r : AV} (h : run Γ Λ live fn args ws = some r) (hlo : LoOk Γ fn.ntmps := by exact lo_none rfl) : Good Tryd.prog f args r :=
  good_of mixed tbOk hΓ hf (bd hb) rfl rfl args hl ⟨fn.ntmps, 0, live⟩ rfl Λ hL (kretW_spec ws) h hlo
theorem goodRaw {f : FuncId} {fn : Func} (hf : Tryd.prog.funcs[f]? = some fn) (hb : fn.body.isSome = true) (hn : (fn.name == "runtime.NumGoroutine") = false) {g : List AV → Option (Bool × AV)} (h : ∀ l r, g l = some (true, r) → Good Tryd.prog f l r) : GoodS Tryd.prog f (.raw g) :=
  ⟨callable_of hf (bd hb) hn, h, fun l p gs r gs' h => by cases h⟩
@[reducible] def U8 : Ty := .int .u8
def str (l : List UInt8) : AV := .one (.str ⟨l.toArray⟩)
@[reducible] def n7 : AV := .one (.int .i64 0)
@[reducible] def n10 : AV := .one (.int .i64 10)
def seven (r : AV) (l : List AV) : Option (Bool × AV) := match l with
  | [.one (.int .i64 0)] => some (true, r)
  | _ => none
theorem seven_some {x r : AV} {l : List AV} (h : seven x l = some (true, r)) : l = [n7] ∧ r = x := by
  unfold seven at h; split at h
  · cases h; exact ⟨rfl, rfl⟩
  · cases h
def seven10 (r : AV) (l : List AV) : Option (Bool × AV) := match l with
  | [.one (.int .i64 0), .one (.int .i64 10)] => some (true, r)
  | _ => none
theorem seven10_some {x r : AV} {l : List AV} (h : seven10 x l = some (true, r)) : l = [n7, n10] ∧ r = x := by
  unfold seven10 at h; split at h
  · cases h; exact ⟨rfl, rfl⟩
  · cases h
def s567 : Sp := .raw (seven (str [48]))
theorem r567 : run (orc []) noL [] F567 [n7] [] = some (str [48]) := by kernel_rfl
theorem g567 : GoodS Tryd.prog N567 s567 := goodRaw H567 rfl (by kernel_rfl) fun l r h => by
  obtain ⟨rfl, rfl⟩ := seven_some h
  exact goodRun (.nil _) H567 rfl noL [] (noLoops (by kernel_rfl)) _ (by decide) [] r567
def s559 : Sp := .raw (seven10 (str [48]))
def Γ559 : Orc := orc [(N567, s567)]
theorem r559 : run Γ559 noL [] F559 [n7, n10] [] = some (str [48]) := by kernel_rfl
theorem g559 : GoodS Tryd.prog N559 s559 := goodRaw H559 rfl (by kernel_rfl) fun l r h => by
  obtain ⟨rfl, rfl⟩ := seven10_some h
  exact goodRun (.cons g567 (.nil _)) H559 rfl noL [] (noLoops (by kernel_rfl)) _ (by decide) [] r559
def s546 : Sp := .raw (seven (str [48]))
theorem r546 : run (orc [(N559, s559)]) noL [] F546 [n7] [] = some (str [48]) := by kernel_rfl
theorem g546 : GoodS Tryd.prog N546 s546 := goodRaw H546 rfl (by kernel_rfl) fun l r h => by
  obtain ⟨rfl, rfl⟩ := seven_some h
  exact goodRun (.cons g559 (.nil _)) H546 rfl noL [] (noLoops (by kernel_rfl)) _ (by decide) [] r546
def s540 : Sp := .raw (seven (str [48]))
theorem r540 : run (orc [(N546, s546)]) noL [] F540 [n7] [] = some (str [48]) := by kernel_rfl
theorem g540 : GoodS Tryd.prog N540 s540 := goodRaw H540 rfl (by kernel_rfl) fun l r h => by
  obtain ⟨rfl, rfl⟩ := seven_some h
  exact goodRun (.cons g546 (.nil _)) H540 rfl noL [] (noLoops (by kernel_rfl)) _ (by decide) [] r540

/-! ### numbers behind octets -/
@[reducible] def hot0 : AV := .one (.hot 0 none)
@[reducible] def rowA (l : List Int) : AV := .arr true U8 l
@[reducible] def rowF (l : List Int) : AV := .arr false U8 l
def lenOk (n : Nat) : Bool := decide (n ≤ 1000000)
/-- Octets, handed over, and handed back with one more behind: the digit of seven. -/
def give60 (l : List AV) (p : Nat) (gs : List AV) : Option (Bool × AV × List AV) := match l, p, gs with
  | [.one (.hot 0 none), .one (.int .u64 0), .one (.int .i64 10)], 0, [.arr false (.int .u8) b] => some (lenOk b.length, hot0, [rowA (b ++ [48])])
  | _, _, _ => none
def give41 (l : List AV) (p : Nat) (gs : List AV) : Option (Bool × AV × List AV) := match l, p, gs with
  | [.one (.hot 0 none), .one (.int .i64 0), .one (.int .i64 10)], 0, [.arr false (.int .u8) b] => some (lenOk b.length, hot0, [rowA (b ++ [48])])
  | _, _, _ => none
theorem give60_some {l : List AV} {p : Nat} {gs : List AV} {r : AV} {gs' : List AV} (h : give60 l p gs = some (true, r, gs')) : ∃ b, lenOk b.length = true ∧ l = [hot0, .one (.int .u64 0), n10] ∧ p = 0 ∧ gs = [rowF b] ∧ r = hot0 ∧ gs' = [rowA (b ++ [48])] := by
  unfold give60 at h; split at h
  · rename_i b
    simp only [Option.some.injEq, Prod.mk.injEq] at h
    obtain ⟨h1, rfl, rfl⟩ := h
    exact ⟨b, h1, rfl, rfl, rfl, rfl, rfl⟩
  · cases h
theorem give41_some {l : List AV} {p : Nat} {gs : List AV} {r : AV} {gs' : List AV} (h : give41 l p gs = some (true, r, gs')) : ∃ b, lenOk b.length = true ∧ l = [hot0, n7, n10] ∧ p = 0 ∧ gs = [rowF b] ∧ r = hot0 ∧ gs' = [rowA (b ++ [48])] := by
  unfold give41 at h; split at h
  · rename_i b
    simp only [Option.some.injEq, Prod.mk.injEq] at h
    obtain ⟨h1, rfl, rfl⟩ := h
    exact ⟨b, h1, rfl, rfl, rfl, rfl, rfl⟩
  · cases h
def live60 : List (Nat × List (Nat × Dir)) := []
def hot (n : Nat) : AV := .one (.hot n none)
theorem r560 (b : List Int) : runIO Γ559 noL2 1 [] F560 [hot F560.ntmps, .one (.int .u64 0), n10] [rowF b] 0 [] =
    bif decide ((b.length + (bytesOf ⟨#[48]⟩).length) * 1 ≤ 140737488355328) then some (hot0, [rowA (b ++ bytesOf ⟨#[48]⟩)]) else none := by kernel_rfl
theorem lenOk_le {n : Nat} (h : lenOk n = true) : n ≤ 1000000 := of_decide_eq_true h
theorem bytes7 : bytesOf ⟨#[48]⟩ = [48] := by decide +kernel
def s560 : Sp := .io give60
theorem g560 : GoodS Tryd.prog N560 s560 := by
  refine GoodS.io (callable_of H560 (bd (by kernel_rfl)) (by kernel_rfl)) fun l p gs r gs' _ _ h => ?_
  obtain ⟨b, hb, rfl, rfl, rfl, rfl, rfl⟩ := give60_some h
  refine goodIO1 (.cons g567 (.nil _)) H560 rfl noL2 1 [] (noLoops2 (by kernel_rfl)) _ _ 0 rfl rfl rfl (Nat.zero_le _) (by decide) (Nat.le_refl _) [] ((r560 b).trans ?_)
  rw [bytes7, decide_eq_true (by simp; have := lenOk_le hb; omega)]
  rfl
theorem r547 (b : List Int) : runIO (orc [(N560, s560)]) noL2 2 [] F547 [hot F547.ntmps, n7, n10] [rowF b] 0 [] = bif lenOk b.length then some (hot0, [rowA (b ++ [48])]) else none := by kernel_rfl
def s547 : Sp := .io give41
theorem g547 : GoodS Tryd.prog N547 s547 := by
  refine GoodS.io (callable_of H547 (bd (by kernel_rfl)) (by kernel_rfl)) fun l p gs r gs' _ _ h => ?_
  obtain ⟨b, hb, rfl, rfl, rfl, rfl, rfl⟩ := give41_some h
  refine goodIO1 (.cons g560 (.nil _)) H547 rfl noL2 2 [] (noLoops2 (by kernel_rfl)) [hot0, n7, n10] [rowF b] 0 rfl rfl rfl (Nat.zero_le _) (by decide) (Nat.le_succ 1) [] ((r547 b).trans ?_)
  rw [hb]; rfl
theorem r541 (b : List Int) : runIO (orc [(N547, s547)]) noL2 2 [] F541 [hot F541.ntmps, n7, n10] [rowF b] 0 [] = bif lenOk b.length then some (hot0, [rowA (b ++ [48])]) else none := by kernel_rfl
def s541 : Sp := .io give41
theorem g541 : GoodS Tryd.prog N541 s541 := by
  refine GoodS.io (callable_of H541 (bd (by kernel_rfl)) (by kernel_rfl)) fun l p gs r gs' _ _ h => ?_
  obtain ⟨b, hb, rfl, rfl, rfl, rfl, rfl⟩ := give41_some h
  refine goodIO1 (.cons g547 (.nil _)) H541 rfl noL2 2 [] (noLoops2 (by kernel_rfl)) [hot0, n7, n10] [rowF b] 0 rfl rfl rfl (Nat.zero_le _) (by decide) (Nat.le_succ 1) [] ((r541 b).trans ?_)
  rw [hb]; rfl

/-! ### lengths, of the example -/
@[reducible] def slT (nl : Option Bool) (l : List Term.D) : AV := .one (.sl false Term nl l)
@[reducible] def iV (n : Int) : AV := .one (.int .i64 n)
@[reducible] def L0 : List Term.D := [(1, 0, 0), (3, 0, 0), (4, 1, 0)]
abbrev lv532 : List (Nat × Dir) := [(5, .arr I), (16, .keep), (17, .keep), (18, .keep)]
abbrev lv532b : List (Nat × Dir) := lv532 ++ [(6, .keep), (45, .keep), (46, .keep), (47, .keep)]
abbrev live532 : List (Nat × List (Nat × Dir)) := [(0, lv532), (2, lv532b)]
def Γ532 : Orc := orc [(N540, s540), (N74, s74)]
def inn532 (ns : List Int) (k : Int) (ps : List Int) : Option (List Int) := match ns, k, ps with
  | [2, 0, 0], 0, [] => some [2, 0, 0]
  | [2, 2, 0], 1, [0] => some [2, 5, 0]
  | [2, 5, 2], 2, [1] => some [2, 5, 8]
  | _, _, _ => none
def vs532 (ns : List Int) (x : AV) (n i k : Int) (ps : List Int) (m j : Int) : List AV := [.arr true I ns, x, iV n, iV i, iV k, .one (.sl true I none ps), iV m, iV j]
def Λ532 : Lam AV := fun cur vs K =>
  match cur, vs with
  | 0, [.arr true (.int .i64) [0, 0, 0], .one (.sl false (.pair (.int .i64) (.pair (.int .i64) (.int .i64))) none [(1, 0, 0), (3, 0, 0), (4, 1, 0)]), .one (.int .i64 3), .one (.int .i64 0)] =>
    K (.exit 0) [.arr true I [2, 5, 8], slT none L0, iV 3, iV 3]
  | 2, [.arr true (.int .i64) ns, .one (.sl false (.pair (.int .i64) (.pair (.int .i64) (.int .i64))) none [(1, 0, 0), (3, 0, 0), (4, 1, 0)]), .one (.int .i64 n), .one (.int .i64 i), .one (.int .i64 k), .one (.sl true (.int .i64) none ps), .one (.int .i64 m), .one (.int .i64 0)] =>
    match inn532 ns k ps with
    | some ns' => bif decide (m = ps.length) then K (.exit 2) (vs532 ns' (slT none L0) n i k ps m m) else none
    | none => none
  | _, _ => none
theorem loop532a : LoopP tb Γ532 Λ532 ⟨68, 0, live532⟩ ((loopsOf 0 (body F532)).getD 0 (0, .skip)) := by
  intro vs K out h
  have hcur : ((loopsOf 0 (body F532)).getD 0 (0, .skip)).1 = 0 := by kernel_rfl
  rw [hcur] at h ⊢
  unfold Λ532 at h
  split at h
  · refine ⟨4, Eq.trans ?_ h⟩
    kernel_rfl
  · rename_i hh; cases hh
  · cases h
theorem inn_some {ns : List Int} {k : Int} {ps ns' : List Int} (h : inn532 ns k ps = some ns') : (ns = [2, 0, 0] ∧ k = 0 ∧ ps = [] ∧ ns' = [2, 0, 0]) ∨ (ns = [2, 2, 0] ∧ k = 1 ∧ ps = [0] ∧ ns' = [2, 5, 0]) ∨ (ns = [2, 5, 2] ∧ k = 2 ∧ ps = [1] ∧ ns' = [2, 5, 8]) := by
  unfold inn532 at h; split at h <;> cases h
  · exact .inl ⟨rfl, rfl, rfl, rfl⟩
  · exact .inr (.inl ⟨rfl, rfl, rfl, rfl⟩)
  · exact .inr (.inr ⟨rfl, rfl, rfl, rfl⟩)
noncomputable abbrev lp532 (K : AE → List AV → Option AV) (fuel : Nat) (vs : List AV) : Option AV := loopN (aexec tb Γ532 Λ532 ⟨68, 0, live532⟩ ((loopsOf 0 (body F532)).getD 1 (0, .skip)).2 2) 68 0 lv532b K fuel vs
theorem st532a (x : AV) (n i : Int) (K : AE → List AV → Option AV) : lp532 K 2 (vs532 [2, 0, 0] (slT none L0) n i 0 [] 0 0) = K (.exit 2) (vs532 [2, 0, 0] (slT none L0) n i 0 [] 0 0) := by kernel_rfl
theorem st532b (x : AV) (n i : Int) (K : AE → List AV → Option AV) : lp532 K 2 (vs532 [2, 2, 0] (slT none L0) n i 1 [0] 1 0) = K (.exit 2) (vs532 [2, 5, 0] (slT none L0) n i 1 [0] 1 1) := by kernel_rfl
theorem st532c (x : AV) (n i : Int) (K : AE → List AV → Option AV) : lp532 K 2 (vs532 [2, 5, 2] (slT none L0) n i 2 [1] 1 0) = K (.exit 2) (vs532 [2, 5, 8] (slT none L0) n i 2 [1] 1 1) := by kernel_rfl
theorem loop532b : LoopP tb Γ532 Λ532 ⟨68, 0, live532⟩ ((loopsOf 0 (body F532)).getD 1 (0, .skip)) := by
  intro vs K out h
  have hcur : ((loopsOf 0 (body F532)).getD 1 (0, .skip)).1 = 2 := by kernel_rfl
  rw [hcur] at h ⊢
  unfold Λ532 at h
  split at h
  · rename_i hh; cases hh
  · rename_i ns n i k ps m _
    split at h
    · rename_i ns' hi
      cases hm : decide (m = (ps.length : Int)) with
      | false => rw [hm] at h; cases h
      | true =>
        rw [hm] at h
        obtain rfl := of_decide_eq_true hm
        rcases inn_some hi with ⟨rfl, rfl, rfl, rfl⟩ | ⟨rfl, rfl, rfl, rfl⟩ | ⟨rfl, rfl, rfl, rfl⟩
        · exact ⟨2, (st532a (slT none L0) n i K).trans h⟩
        · exact ⟨2, (st532b (slT none L0) n i K).trans h⟩
        · exact ⟨2, (st532c (slT none L0) n i K).trans h⟩
    · cases h
  · cases h
theorem r532 : run Γ532 Λ532 live532 F532 [slT none L0, iV 2] [.sl true I] = some (.one (.sl true I none [2, 5, 8])) := by kernel_rfl

/-! ### write, of the example -/
def wr0 (l : List AV) (p : Nat) (gs : List AV) : Option (Bool × AV × List AV) := match l, p, gs with
  | [.one (.hot 0 none), .one (.sl false (.pair (.int .i64) (.pair (.int .i64) (.int .i64))) none [(1, 0, 0), (3, 0, 0), (4, 1, 0)]), .one (.int .i64 0)], 0, [.arr false (.int .u8) b] => some (lenOk (b.length + 100), hot0, [rowA (b ++ [97] ++ [48])])
  | _, _, _ => none
def wr1 (l : List AV) (p : Nat) (gs : List AV) : Option (Bool × AV × List AV) := match l, p, gs with
  | [.one (.hot 0 none), .one (.sl false (.pair (.int .i64) (.pair (.int .i64) (.int .i64))) none [(1, 0, 0), (3, 0, 0), (4, 1, 0)]), .one (.int .i64 1)], 0, [.arr false (.int .u8) b] => some (lenOk (b.length + 200), hot0, [rowA (b ++ [82, 40] ++ [97] ++ [48] ++ [41])])
  | _, _, _ => none
def wr2 (l : List AV) (p : Nat) (gs : List AV) : Option (Bool × AV × List AV) := match l, p, gs with
  | [.one .nils, .one (.sl false (.pair (.int .i64) (.pair (.int .i64) (.int .i64))) none [(1, 0, 0), (3, 0, 0), (4, 1, 0)]), .one (.int .i64 2)], 0, [] => some (true, hot0, [rowA ([75, 40] ++ [82, 40] ++ [97] ++ [48] ++ [41] ++ [41])])
  | _, _, _ => none
theorem wr0_some {l : List AV} {p : Nat} {gs : List AV} {r : AV} {gs' : List AV} (h : wr0 l p gs = some (true, r, gs')) : ∃ b, lenOk (b.length + 100) = true ∧ l = [hot0, slT none L0, iV 0] ∧ p = 0 ∧ gs = [rowF b] ∧ r = hot0 ∧ gs' = [rowA (b ++ [97] ++ [48])] := by
  unfold wr0 at h; split at h
  · rename_i b
    simp only [Option.some.injEq, Prod.mk.injEq] at h
    obtain ⟨h1, rfl, rfl⟩ := h
    exact ⟨b, h1, rfl, rfl, rfl, rfl, rfl⟩
  · cases h
theorem wr1_some {l : List AV} {p : Nat} {gs : List AV} {r : AV} {gs' : List AV} (h : wr1 l p gs = some (true, r, gs')) : ∃ b, lenOk (b.length + 200) = true ∧ l = [hot0, slT none L0, iV 1] ∧ p = 0 ∧ gs = [rowF b] ∧ r = hot0 ∧ gs' = [rowA (b ++ [82, 40] ++ [97] ++ [48] ++ [41])] := by
  unfold wr1 at h; split at h
  · rename_i b
    simp only [Option.some.injEq, Prod.mk.injEq] at h
    obtain ⟨h1, rfl, rfl⟩ := h
    exact ⟨b, h1, rfl, rfl, rfl, rfl, rfl⟩
  · cases h
theorem wr2_some {l : List AV} {p : Nat} {gs : List AV} {r : AV} {gs' : List AV} (h : wr2 l p gs = some (true, r, gs')) : l = [.one .nils, slT none L0, iV 2] ∧ p = 0 ∧ gs = [] ∧ r = hot0 ∧ gs' = [rowA ([75, 40] ++ [82, 40] ++ [97] ++ [48] ++ [41] ++ [41])] := by
  unfold wr2 at h; split at h
  · cases h
    exact ⟨rfl, rfl, rfl, rfl, rfl⟩
  · cases h
theorem bytes_a : bytesOf ⟨#[97]⟩ = [97] ∧ bytesOf ⟨#[82, 40]⟩ = [82, 40] ∧ bytesOf ⟨#[75, 40]⟩ = [75, 40] := by decide +kernel
abbrev lv533 : List (Nat × Dir) := [(0, .arr U8), (1, .keep), (28, .keep), (29, .keep), (30, .keep)]
theorem r533a (b : List Int) : runIO (orc [(N541, s541), (N74, s74)]) noL2 1 [(0, lv533)] F533 [hot F533.ntmps, slT none L0, iV 0] [rowF b] 0 [] =
    bif decide ((b.length + (bytesOf ⟨#[97]⟩).length) * 1 ≤ 140737488355328) then bif lenOk (b ++ bytesOf ⟨#[97]⟩).length then some (hot0, [rowA (b ++ bytesOf ⟨#[97]⟩ ++ [48])]) else none else none := by kernel_rfl
theorem noLoopsΛ {Γ : Orc} {ms : Lay} {c : Code} : ∀ p ∈ loopsOf 0 c, LoopP tb Γ noL2 ms p := fun p _ vs K out h => by cases h
theorem g533a : GoodS Tryd.prog N533 (.io wr0) := by
  refine GoodS.io (callable_of H533 (bd (by kernel_rfl)) (by kernel_rfl)) fun l p gs r gs' _ _ h => ?_
  obtain ⟨b, hb, rfl, rfl, rfl, rfl, rfl⟩ := wr0_some h
  refine goodIO1 (.cons g541 (.cons g74 (.nil _))) H533 rfl noL2 1 [(0, lv533)] noLoopsΛ [hot0, slT none L0, iV 0] [rowF b] 0 rfl rfl rfl (Nat.zero_le _) (by decide) (Nat.le_refl _) [] ((r533a b).trans ?_)
  have := lenOk_le hb
  have h2 : lenOk (b ++ [97]).length = true := decide_eq_true (by simp; omega)
  rw [bytes_a.1, decide_eq_true (by simp; omega), h2]
  rfl
def Λ533 (p : Int) (pad : Nat) (more : List Int) : Lam (AV × List AV) := fun cur vs K =>
  match cur, vs with
  | 0, [.arr true (.int .u8) b, .one (.sl false (.pair (.int .i64) (.pair (.int .i64) (.int .i64))) none [(1, 0, 0), (3, 0, 0), (4, 1, 0)]), .one (.sl true (.int .i64) none [q]), .one (.int .i64 1), .one (.int .i64 0)] =>
    bif decide (q = p) && lenOk (b.length + pad) then K (.exit 0) [rowA (List.append b more), slT none L0, .one (.sl true I none [p]), iV 1, iV 1] else none
  | _, _ => none
theorem st533b (b : List Int) (K : AE → List AV → Option (AV × List AV)) : loopN (aexec tb (orc [(N533, .io wr0), (N74, s74)]) (Λ533 0 100 ([97] ++ [48])) ⟨48, 1, [(0, lv533)]⟩ ((loopsOf 0 (body F533)).getD 0 (0, .skip)).2 0) 48 1 lv533 K 2 [rowA b, slT none L0, .one (.sl true I none [0]), iV 1, iV 0] =
    bif lenOk (b.length + 100) then K (.exit 0) [rowA (b ++ [97] ++ [48]), slT none L0, .one (.sl true I none [0]), iV 1, iV 1] else none := by kernel_rfl
theorem st533c (b : List Int) (K : AE → List AV → Option (AV × List AV)) : loopN (aexec tb (orc [(N533, .io wr1), (N74, s74)]) (Λ533 1 200 ([82, 40] ++ [97] ++ [48] ++ [41])) ⟨48, 0, [(0, lv533)]⟩ ((loopsOf 0 (body F533)).getD 0 (0, .skip)).2 0) 48 0 lv533 K 2 [rowA b, slT none L0, .one (.sl true I none [1]), iV 1, iV 0] =
    bif lenOk (b.length + 200) then K (.exit 0) [rowA (b ++ [82, 40] ++ [97] ++ [48] ++ [41]), slT none L0, .one (.sl true I none [1]), iV 1, iV 1] else none := by kernel_rfl
theorem loop533 {wr : List AV → Nat → List AV → Option (Bool × AV × List AV)} {p : Int} {pad : Nat} {more : List Int} {G : Nat}
    (hst : ∀ (b : List Int) (K : AE → List AV → Option (AV × List AV)), loopN (aexec tb (orc [(N533, .io wr), (N74, s74)]) (Λ533 p pad more) ⟨48, G, [(0, lv533)]⟩ ((loopsOf 0 (body F533)).getD 0 (0, .skip)).2 0) 48 G lv533 K 2 [rowA b, slT none L0, .one (.sl true I none [p]), iV 1, iV 0] =
      bif lenOk (b.length + pad) then K (.exit 0) [rowA (List.append b more), slT none L0, .one (.sl true I none [p]), iV 1, iV 1] else none) :
    LoopP tb (orc [(N533, .io wr), (N74, s74)]) (Λ533 p pad more) ⟨48, G, [(0, lv533)]⟩ ((loopsOf 0 (body F533)).getD 0 (0, .skip)) := by
  intro vs K out h
  have hcur : ((loopsOf 0 (body F533)).getD 0 (0, .skip)).1 = 0 := by kernel_rfl
  rw [hcur] at h ⊢
  unfold Λ533 at h
  split at h
  · rename_i b q _
    cases hc : (decide (q = p) && lenOk (b.length + pad)) with
    | false => rw [hc] at h; cases h
    | true =>
      rw [hc] at h
      simp only [Bool.and_eq_true, decide_eq_true_eq] at hc
      obtain ⟨rfl, hc⟩ := hc
      refine ⟨2, (hst b K).trans ?_⟩
      rw [hc]; exact h
  · cases h
theorem more_b (b : List Int) : b ++ [97] ++ [48] = List.append b ([97] ++ [48]) := by show _ = b ++ _; simp
theorem more_c (b : List Int) : b ++ [82, 40] ++ [97] ++ [48] ++ [41] = List.append b ([82, 40] ++ [97] ++ [48] ++ [41]) := by show _ = b ++ _; simp
theorem r533b (b : List Int) : runIO (orc [(N533, .io wr0), (N74, s74)]) (Λ533 0 100 ([97] ++ [48])) 1 [(0, lv533)] F533 [hot F533.ntmps, slT none L0, iV 1] [rowF b] 0 [] =
    bif decide ((b.length + (bytesOf ⟨#[82, 40]⟩).length) * 1 ≤ 140737488355328) then bif decide ((0 : Int) = 0) && lenOk ((b ++ bytesOf ⟨#[82, 40]⟩).length + 100) then
      bif decide (((List.append (b ++ bytesOf ⟨#[82, 40]⟩) ([97] ++ [48])).length + 1) * 1 ≤ 140737488355328) then some (hot0, [rowA (List.append (b ++ bytesOf ⟨#[82, 40]⟩) ([97] ++ [48]) ++ [41])]) else none else none else none := by kernel_rfl
theorem r533c : runIO (orc [(N533, .io wr1), (N74, s74)]) (Λ533 1 200 ([82, 40] ++ [97] ++ [48] ++ [41])) 0 [(0, lv533)] F533 [.one .nils, slT none L0, iV 2] [] 0 [] =
    some (hot0, [rowA (List.append (bytesOf ⟨#[75, 40]⟩) ([82, 40] ++ [97] ++ [48] ++ [41]) ++ [41])]) := by kernel_rfl
end Go.AM.Seat
