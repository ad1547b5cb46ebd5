/- The seat: contracts: steps, depths, what is useful, what may be. -/
import Derived.Test.YtoeijiackpanoaaSeN4
set_option linter.unusedVariables false
set_option maxRecDepth 100000
namespace Go.AM.Seat
open Go Go.AM Go.Proofs

/-! ### sub.Step -/
abbrev live399 : List (Nat × Dir) := [(0, .keep), (5, .keep)]
def stepK (h : Int) (K : Int → Option AV) : Option AV :=
  bif decide (1 < h) then bif decide (4 < h) then bif decide (9 < h) then bif decide (16 < h) then bif decide (25 < h) then bif decide (36 < h) then none else K 6 else K 5 else K 4 else K 3 else K 2 else K 1
def Λ399 : Lam AV := fun cur vs K =>
  match cur, vs with
  | 0, [.one (.int .i64 h), .one (.int .i64 1)] => stepK h fun n => K (.exit 0) [.one (.int .i64 h), .one (.int .i64 n)]
  | _, _ => none
theorem loop399 : LoopP tb (orc [(N366, s366)]) Λ399 ⟨19, 0, [(0, live399)]⟩ (loop1 F399) := by
  intro vs K out h
  have hcur : (loop1 F399).1 = 0 := by kernel_rfl
  rw [hcur] at h ⊢
  unfold Λ399 at h
  split at h
  · rename_i x _
    refine ⟨6, ?_⟩
    have e : loopN (aexec tb (orc [(N366, s366)]) Λ399 ⟨19, 0, [(0, live399)]⟩ (loop1 F399).2 0) 19 0 live399 K 6 [.one (.int .i64 x), .one (.int .i64 1)] =
      stepK x fun n => K (.exit 0) [.one (.int .i64 x), .one (.int .i64 n)] := by kernel_rfl
    exact e.trans h
  · cases h
def stepN (h : Int) : Int := bif decide (1 < h) then bif decide (4 < h) then bif decide (9 < h) then bif decide (16 < h) then bif decide (25 < h) then 6 else 5 else 4 else 3 else 2 else 1
def stepI (h : Int) : Int × Int := bif chkI h 1 != 0 then (0, chkI h 1) else (stepN h, 0)
theorem r399 (h : Int) : run (orc [(N366, s366)]) Λ399 [(0, live399)] F399 (encA [.v I] h) [] = bif chkI h 1 != 0 then some (ri2 0 (chkI h 1)) else stepK h fun n => some (ri2 n 0) := by kernel_rfl
def s399 : Sp := .fn [.v I] fun h => (true, ri2 (stepI h).1 (stepI h).2)
theorem stepK_eq {h : Int} (h1 : h ≤ 32) (K : Int → Option AV) : stepK h K = K (stepN h) := by
  unfold stepK stepN
  rw [decide_eq_false (show ¬ 36 < h by omega)]
  cases decide (1 < h) <;> cases decide (4 < h) <;> cases decide (9 < h) <;> cases decide (16 < h) <;> cases decide (25 < h) <;> rfl
theorem g399 : GoodS Try.prog N399 s399 := by
  refine good (.cons g366 (.nil _)) H399 rfl (by kernel_rfl) Λ399 [(0, live399)] (oneLoop (p0 := loop1 F399) (by kernel_rfl) loop399) [.v I] (by decide) [] _ fun h r hw e => ?_
  cases e
  rw [r399]; unfold stepI
  cases hc : chkI h 1 != 0 with
  | true => rfl
  | false =>
    have := highB_iff.1 (chk_zero hc).1
    simp only [cond_false]
    exact stepK_eq this.2 _
theorem stepN_pos (h : Int) : 1 ≤ stepN h ∧ stepN h ≤ 6 := by
  unfold stepN
  cases decide (1 < h) <;> cases decide (4 < h) <;> cases decide (9 < h) <;> cases decide (16 < h) <;> cases decide (25 < h) <;> decide
/-! ### sub.depths -/
def dpV (i j n h e : Int) : AV := .tup [(false, [.int .i64 i]), (false, [.int .i64 j]), (false, [.int .i64 (minI (IntKind.i64.wrap (IntKind.i64.wrap (IntKind.i64.wrap (i.tdiv n) + 1) * n)) h)]), (false, [.bool (bif i.tmod n == 0 then true else i == h)]), (false, [.int .i64 e])]
noncomputable def dpA (b : Bool) (i j n h e : Int) : Option AV :=
  allSame (List.replicate 3 (some (.tup [(false, [.int .i64 i]), (false, [.int .i64 j]), (false, [.int .i64 (minI (IntKind.i64.wrap (IntKind.i64.wrap (IntKind.i64.wrap (i.tdiv n) + 1) * n)) h)]), (false, [.bool b]), (false, [.int .i64 e])])))
noncomputable def dpR (i j n h e : Int) : Option AV := bif !decide (n = 0) then bif !decide (n = 0) then bif i.tmod n == 0 then dpA true i j n h e else dpA (i == h) i j n h e else none else none
theorem r365 (h : Int) (s : Subset.D) : run (orc [(N399, s399), (N362, s362)]) noL [] F365 (encA [.v I, .v Subset] (h, s)) [] =
    bif (stepI h).2 != 0 then some (.tup [(false, [.int .i64 0]), (false, [.int .i64 0]), (false, [.int .i64 0]), (false, [.bool false]), (false, [.int .i64 (stepI h).2])]) else
    bif (bif (depthI h s.1).2 == 0 then s.2 != 0 else false) then dpR (depthI h s.1).1 (depthI h s.2).1 (stepI h).1 h (depthI h s.2).2 else dpR (depthI h s.1).1 0 (stepI h).1 h (depthI h s.1).2 := by kernel_rfl
def nxI (i n h : Int) : Int := minI (IntKind.i64.wrap (IntKind.i64.wrap (IntKind.i64.wrap (i.tdiv n) + 1) * n)) h
def spB (i n h : Int) : Bool := bif i.tmod n == 0 then true else i == h
def rd5 (i j x : Int) (b : Bool) (e : Int) : AV := .tup [(false, [.int .i64 i]), (false, [.int .i64 j]), (false, [.int .i64 x]), (false, [.bool b]), (false, [.int .i64 e])]
def depB (h : Int) (s : Subset.D) : Bool := bif (depthI h s.1).2 == 0 then s.2 != 0 else false
def depJ (h : Int) (s : Subset.D) : Int := bif depB h s then (depthI h s.2).1 else 0
def depE (h : Int) (s : Subset.D) : Int := bif depB h s then (depthI h s.2).2 else (depthI h s.1).2
def depsV (h : Int) (s : Subset.D) : AV := bif (stepI h).2 != 0 then rd5 0 0 0 false (stepI h).2 else
  rd5 (depthI h s.1).1 (depJ h s) (nxI (depthI h s.1).1 (stepI h).1 h) (spB (depthI h s.1).1 (stepI h).1 h) (depE h s)
def s365 : Sp := .fn [.v I, .v Subset] fun x => (true, depsV x.1 x.2)
theorem dpR_eq {i j n h e : Int} (hn : n ≠ 0) : dpR i j n h e = some (rd5 i j (nxI i n h) (spB i n h) e) := by
  unfold dpR dpA
  rw [decide_eq_false hn]
  unfold spB
  cases i.tmod n == 0 with
  | true => exact allSame_rep _ 2
  | false => exact allSame_rep _ 2
theorem stepI_ok {h : Int} (he : ((stepI h).2 != 0) = false) : (stepI h).1 = stepN h ∧ (chkI h 1 != 0) = false := by
  unfold stepI at he ⊢
  cases hc : chkI h 1 != 0 with
  | true => rw [hc] at he; simp only [cond_true] at he; rw [hc] at he; cases he
  | false => exact ⟨rfl, rfl⟩
theorem stepI_ne {h : Int} (he : ((stepI h).2 != 0) = false) : (stepI h).1 ≠ 0 := by
  rw [(stepI_ok he).1]
  have := stepN_pos h
  omega
theorem g365 : GoodS Try.prog N365 s365 := by
  refine good (.cons g399 (.cons g362 (.nil _))) H365 rfl (by kernel_rfl) noL [] (noLoops (by kernel_rfl)) [.v I, .v Subset] (by decide) [] _ fun x r hw e => ?_
  obtain ⟨h, s⟩ := x
  cases e
  rw [r365]
  show _ = some (depsV h s)
  unfold depsV depJ depE
  cases hs : (stepI h).2 != 0 with
  | true => rfl
  | false =>
    rw [dpR_eq (stepI_ne hs), dpR_eq (stepI_ne hs)]
    show (bif depB h s then _ else _) = _
    cases depB h s <;> rfl

/-! ### sub.Useful -/
def useB (h : Int) (s : Subset.D) : Bool := bif (bif (stepI h).2 != 0 then (stepI h).2 else depE h s) == 0 then (bif (bif (stepI h).2 != 0 then false else spB (depthI h s.1).1 (stepI h).1 h) then true else decide ((bif (stepI h).2 != 0 then 0 else depJ h s) ≤ (bif (stepI h).2 != 0 then 0 else nxI (depthI h s.1).1 (stepI h).1 h))) else false
def useI (h : Int) (s : Subset.D) : Bool × Int := bif subE h s != 0 then (false, subE h s) else bif s.2 == 0 then (s.1 == 1, 0) else
  (useB h s, bif (stepI h).2 != 0 then (stepI h).2 else depE h s)
def use5 (i j x : Int) (b : Bool) (e : Int) : Option AV := some (rb2 (bif e == 0 then (bif b then true else decide (j ≤ x)) else false) e)
def s365' : Sp := .fn [.v I, .v Subset] fun x => (true, rd5 (bif (stepI x.1).2 != 0 then 0 else (depthI x.1 x.2.1).1) (bif (stepI x.1).2 != 0 then 0 else depJ x.1 x.2) (bif (stepI x.1).2 != 0 then 0 else nxI (depthI x.1 x.2.1).1 (stepI x.1).1 x.1)
  (bif (stepI x.1).2 != 0 then false else spB (depthI x.1 x.2.1).1 (stepI x.1).1 x.1) (bif (stepI x.1).2 != 0 then (stepI x.1).2 else depE x.1 x.2))
theorem s365_eq : s365 = s365' := by
  unfold s365 s365'
  congr 1
  funext x
  obtain ⟨h, s⟩ := x
  show (true, depsV h s) = _
  unfold depsV
  simp only
  cases (stepI h).2 != 0 <;> rfl
theorem r327 (h : Int) (s : Subset.D) : run (orc [(N341, s341), (N365, s365')]) noL [] F327 (encA [.v I, .v Subset] (h, s)) [] =
    bif subE h s != 0 then some (rb2 false (subE h s)) else bif s.2 == 0 then some (rb2 (s.1 == 1) 0) else some (rb2 (useB h s) (bif (stepI h).2 != 0 then (stepI h).2 else depE h s)) := by kernel_rfl
def s327 : Sp := .fn [.v I, .v Subset] fun x => (true, rb2 (useI x.1 x.2).1 (useI x.1 x.2).2)
theorem g327 : GoodS Try.prog N327 s327 := by
  refine good (.cons g341 (.cons (s365_eq ▸ g365) (.nil _))) H327 rfl (by kernel_rfl) noL [] (noLoops (by kernel_rfl)) [.v I, .v Subset] (by decide) [] _ fun x r hw e => ?_
  obtain ⟨h, s⟩ := x
  cases e
  rw [r327]; unfold useI
  cases subE h s != 0 with
  | true => rfl
  | false => cases s.2 == 0 <;> rfl
end Go.AM.Seat
