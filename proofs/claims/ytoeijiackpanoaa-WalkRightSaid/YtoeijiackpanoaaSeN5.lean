/- The seat: contracts: steps, depths, what is useful, what may be. -/
import Derived.Test.YtoeijiackpanoaaSeN3
set_option linter.unusedVariables false
set_option maxRecDepth 100000
namespace Go.AM.Seat
open Go Go.AM Go.Proofs

/-! ### sub.Step -/
abbrev live399 : List (Nat × Dir) := [(0, .keep), (5, .keep)]
def stepK (h : Int) (K : Int → Option AV) : Option AV :=
  bif decide (1 < h) then bif decide (4 < h) then bif decide (9 < h) then bif decide (16 < h) then bif decide (25 < h) then bif decide (36 < h) then none else K 6 else K 5 else K 4 else K 3 else K 2 else K 1
def Λ399 : Lam AV := fun cur vs K =>
  match cur, vs with
  | 0, [.one (.int .i64 h), .one (.int .i64 1)] => stepK h fun n => K (.exit 0) [.one (.int .i64 h), .one (.int .i64 n)]
  | _, _ => none
theorem loop399 : LoopP tb (orc [(N366, s366)]) Λ399 ⟨19, 0, [(0, live399)]⟩ (loop1 F399) := by
  intro vs K out h
  have hcur : (loop1 F399).1 = 0 := by kernel_rfl
  rw [hcur] at h ⊢
  unfold Λ399 at h
  split at h
  · rename_i x _
    refine ⟨6, ?_⟩
    have e : loopN (aexec tb (orc [(N366, s366)]) Λ399 ⟨19, 0, [(0, live399)]⟩ (loop1 F399).2 0) 19 0 live399 K 6 [.one (.int .i64 x), .one (.int .i64 1)] =
      stepK x fun n => K (.exit 0) [.one (.int .i64 x), .one (.int .i64 n)] := by kernel_rfl
    exact e.trans h
  · cases h
def stepN (h : Int) : Int := bif decide (1 < h) then bif decide (4 < h) then bif decide (9 < h) then bif decide (16 < h) then bif decide (25 < h) then 6 else 5 else 4 else 3 else 2 else 1
def stepI (h : Int) : Int × Int := bif chkI h 1 != 0 then (0, chkI h 1) else (stepN h, 0)
theorem r399 (h : Int) : run (orc [(N366, s366)]) Λ399 [(0, live399)] F399 (encA [.v I] h) [] = bif chkI h 1 != 0 then some (ri2 0 (chkI h 1)) else stepK h fun n => some (ri2 n 0) := by kernel_rfl
def s399 : Sp := .fn [.v I] fun h => (true, ri2 (stepI h).1 (stepI h).2)
theorem stepK_eq {h : Int} (h1 : h ≤ 32) (K : Int → Option AV) : stepK h K = K (stepN h) := by
  unfold stepK stepN
  rw [decide_eq_false (show ¬ 36 < h by omega)]
  cases decide (1 < h) <;> cases decide (4 < h) <;> cases decide (9 < h) <;> cases decide (16 < h) <;> cases decide (25 < h) <;> rfl
theorem g399 : GoodS Try.prog N399 s399 := by
  refine good (.cons g366 (.nil _)) H399 rfl (by kernel_rfl) Λ399 [(0, live399)] (oneLoop (p0 := loop1 F399) (by kernel_rfl) loop399) [.v I] (by decide) [] _ fun h r hw e => ?_
  cases e
  rw [r399]; unfold stepI
  cases hc : chkI h 1 != 0 with
  | true => rfl
  | false =>
    have := highB_iff.1 (chk_zero hc).1
    simp only [cond_false]
    exact stepK_eq this.2 _
theorem stepN_pos (h : Int) : 1 ≤ stepN h ∧ stepN h ≤ 6 := by
  unfold stepN
  cases decide (1 < h) <;> cases decide (4 < h) <;> cases decide (9 < h) <;> cases decide (16 < h) <;> cases decide (25 < h) <;> decide
/-! ### sub.depths -/
def dpV (i j n h e : Int) : AV := .tup [(false, [.int .i64 i]), (false, [.int .i64 j]), (false, [.int .i64 (minI (IntKind.i64.wrap (IntKind.i64.wrap (IntKind.i64.wrap (i.tdiv n) + 1) * n)) h)]), (false, [.bool (bif i.tmod n == 0 then true else i == h)]), (false, [.int .i64 e])]
noncomputable def dpA (b : Bool) (i j n h e : Int) : Option AV :=
  allSame (List.replicate 3 (some (.tup [(false, [.int .i64 i]), (false, [.int .i64 j]), (false, [.int .i64 (minI (IntKind.i64.wrap (IntKind.i64.wrap (IntKind.i64.wrap (i.tdiv n) + 1) * n)) h)]), (false, [.bool b]), (false, [.int .i64 e])])))
noncomputable def dpR (i j n h e : Int) : Option AV := bif !decide (n = 0) then bif !decide (n = 0) then bif i.tmod n == 0 then dpA true i j n h e else dpA (i == h) i j n h e else none else none
theorem r365 (h : Int) (s : Subset.D) : run (orc [(N399, s399), (N362, s362)]) noL [] F365 (encA [.v I, .v Subset] (h, s)) [] =
    bif (stepI h).2 != 0 then some (.tup [(false, [.int .i64 0]), (false, [.int .i64 0]), (false, [.int .i64 0]), (false, [.bool false]), (false, [.int .i64 (stepI h).2])]) else
    bif (bif (depthI h s.1).2 == 0 then s.2 != 0 else false) then dpR (depthI h s.1).1 (depthI h s.2).1 (stepI h).1 h (depthI h s.2).2 else dpR (depthI h s.1).1 0 (stepI h).1 h (depthI h s.1).2 := by kernel_rfl
def nxI (i n h : Int) : Int := minI (IntKind.i64.wrap (IntKind.i64.wrap (IntKind.i64.wrap (i.tdiv n) + 1) * n)) h
def spB (i n h : Int) : Bool := bif i.tmod n == 0 then true else i == h
def rd5 (i j x : Int) (b : Bool) (e : Int) : AV := .tup [(false, [.int .i64 i]), (false, [.int .i64 j]), (false, [.int .i64 x]), (false, [.bool b]), (false, [.int .i64 e])]
def depB (h : Int) (s : Subset.D) : Bool := bif (depthI h s.1).2 == 0 then s.2 != 0 else false
def depJ (h : Int) (s : Subset.D) : Int := bif depB h s then (depthI h s.2).1 else 0
def depE (h : Int) (s : Subset.D) : Int := bif depB h s then (depthI h s.2).2 else (depthI h s.1).2
def depsV (h : Int) (s : Subset.D) : AV := bif (stepI h).2 != 0 then rd5 0 0 0 false (stepI h).2 else
  rd5 (depthI h s.1).1 (depJ h s) (nxI (depthI h s.1).1 (stepI h).1 h) (spB (depthI h s.1).1 (stepI h).1 h) (depE h s)
def s365 : Sp := .fn [.v I, .v Subset] fun x => (true, depsV x.1 x.2)
theorem dpR_eq {i j n h e : Int} (hn : n ≠ 0) : dpR i j n h e = some (rd5 i j (nxI i n h) (spB i n h) e) := by
  unfold dpR dpA
  rw [decide_eq_false hn]
  unfold spB
  cases i.tmod n == 0 with
  | true => exact allSame_rep _ 2
  | false => exact allSame_rep _ 2
theorem stepI_ok {h : Int} (he : ((stepI h).2 != 0) = false) : (stepI h).1 = stepN h ∧ (chkI h 1 != 0) = false := by
  unfold stepI at he ⊢
  cases hc : chkI h 1 != 0 with
  | true => rw [hc] at he; simp only [cond_true] at he; rw [hc] at he; cases he
  | false => exact ⟨rfl, rfl⟩
theorem stepI_ne {h : Int} (he : ((stepI h).2 != 0) = false) : (stepI h).1 ≠ 0 := by
  rw [(stepI_ok he).1]
  have := stepN_pos h
  omega
theorem g365 : GoodS Try.prog N365 s365 := by
  refine good (.cons g399 (.cons g362 (.nil _))) H365 rfl (by kernel_rfl) noL [] (noLoops (by kernel_rfl)) [.v I, .v Subset] (by decide) [] _ fun x r hw e => ?_
  obtain ⟨h, s⟩ := x
  cases e
  rw [r365]
  show _ = some (depsV h s)
  unfold depsV depJ depE
  cases hs : (stepI h).2 != 0 with
  | true => rfl
  | false =>
    rw [dpR_eq (stepI_ne hs), dpR_eq (stepI_ne hs)]
    show (bif depB h s then _ else _) = _
    cases depB h s <;> rfl

/-! ### sub.Useful -/
def useB (h : Int) (s : Subset.D) : Bool := bif (bif (stepI h).2 != 0 then (stepI h).2 else depE h s) == 0 then (bif (bif (stepI h).2 != 0 then false else spB (depthI h s.1).1 (stepI h).1 h) then true else decide ((bif (stepI h).2 != 0 then 0 else depJ h s) ≤ (bif (stepI h).2 != 0 then 0 else nxI (depthI h s.1).1 (stepI h).1 h))) else false
def useI (h : Int) (s : Subset.D) : Bool × Int := bif subE h s != 0 then (false, subE h s) else bif s.2 == 0 then (s.1 == 1, 0) else
  (useB h s, bif (stepI h).2 != 0 then (stepI h).2 else depE h s)
def use5 (i j x : Int) (b : Bool) (e : Int) : Option AV := some (rb2 (bif e == 0 then (bif b then true else decide (j ≤ x)) else false) e)
def s365' : Sp := .fn [.v I, .v Subset] fun x => (true, rd5 (bif (stepI x.1).2 != 0 then 0 else (depthI x.1 x.2.1).1) (bif (stepI x.1).2 != 0 then 0 else depJ x.1 x.2) (bif (stepI x.1).2 != 0 then 0 else nxI (depthI x.1 x.2.1).1 (stepI x.1).1 x.1)
  (bif (stepI x.1).2 != 0 then false else spB (depthI x.1 x.2.1).1 (stepI x.1).1 x.1) (bif (stepI x.1).2 != 0 then (stepI x.1).2 else depE x.1 x.2))
theorem s365_eq : s365 = s365' := by
  unfold s365 s365'
  congr 1
  funext x
  obtain ⟨h, s⟩ := x
  show (true, depsV h s) = _
  unfold depsV
  simp only
  cases (stepI h).2 != 0 <;> rfl
theorem r327 (h : Int) (s : Subset.D) : run (orc [(N341, s341), (N365, s365')]) noL [] F327 (encA [.v I, .v Subset] (h, s)) [] =
    bif subE h s != 0 then some (rb2 false (subE h s)) else bif s.2 == 0 then some (rb2 (s.1 == 1) 0) else some (rb2 (useB h s) (bif (stepI h).2 != 0 then (stepI h).2 else depE h s)) := by kernel_rfl
def s327 : Sp := .fn [.v I, .v Subset] fun x => (true, rb2 (useI x.1 x.2).1 (useI x.1 x.2).2)
theorem g327 : GoodS Try.prog N327 s327 := by
  refine good (.cons g341 (.cons (s365_eq ▸ g365) (.nil _))) H327 rfl (by kernel_rfl) noL [] (noLoops (by kernel_rfl)) [.v I, .v Subset] (by decide) [] _ fun x r hw e => ?_
  obtain ⟨h, s⟩ := x
  cases e
  rw [r327]; unfold useI
  cases subE h s != 0 with
  | true => rfl
  | false => cases s.2 == 0 <;> rfl

/-! ### layer.check, May -/
def schE (h k : Int) : Int := bif (bif decide (k < 1) then true else decide (k > 3)) then 1 else chkI h 1
theorem r348 (h k : Int) : run (orc [(N366, s366)]) noL [] F348 (encA [.v I, .v I] (h, k)) [] = bif (bif decide (k < 1) then true else decide (k > 3)) then some (.one (.int .i64 1)) else some (.one (.int .i64 (chkI h 1))) := by kernel_rfl
def s348 : Sp := .fn [.v I, .v I] fun x => (true, .one (.int .i64 (schE x.1 x.2)))
theorem g348 : GoodS Try.prog N348 s348 := by
  refine good (.cons g366 (.nil _)) H348 rfl (by kernel_rfl) noL [] (noLoops (by kernel_rfl)) [.v I, .v I] (by decide) [] _ fun x r hw e => ?_
  obtain ⟨h, k⟩ := x
  cases e
  rw [r348]; unfold schE
  cases (bif decide (k < 1) then true else decide (k > 3)) <;> rfl
def mayB3 (h k : Int) (s : Subset.D) : Bool := bif schE h k != 0 then true else subE h s != 0
def mayI (h k : Int) (s : Subset.D) : Bool × Int := bif mayB3 h k s then (false, 1) else bif k == 1 then (s.2 == 0, 0) else bif k == 2 then (bif s.2 != 0 then true else s.1 == 1, 0) else useI h s
theorem r318 (h k : Int) (s : Subset.D) : run (orc [(N348, s348), (N341, s341), (N327, s327)]) noL [] F318 (encA [.v I, .v I, .v Subset] (h, k, s)) [] =
    bif mayB3 h k s then some (rb2 false 1) else bif k == 1 then some (rb2 (s.2 == 0) 0) else bif k == 2 then some (rb2 (bif s.2 != 0 then true else s.1 == 1) 0) else some (rb2 (useI h s).1 (useI h s).2) := by kernel_rfl
def s318 : Sp := .fn [.v I, .v I, .v Subset] fun x => (true, rb2 (mayI x.1 x.2.1 x.2.2).1 (mayI x.1 x.2.1 x.2.2).2)
theorem g318 : GoodS Try.prog N318 s318 := by
  refine good (.cons g348 (.cons g341 (.cons g327 (.nil _)))) H318 rfl (by kernel_rfl) noL [] (noLoops (by kernel_rfl)) [.v I, .v I, .v Subset] (by decide) [] _ fun x r hw e => ?_
  obtain ⟨h, k, s⟩ := x
  cases e
  rw [r318]; unfold mayI
  cases mayB3 h k s with
  | true => rfl
  | false =>
    cases k == 1 with
    | true => rfl
    | false => cases k == 2 <;> rfl

/-! ### layer.Pairs -/
abbrev live364 : List (Nat × Dir) := [(0, .keep), (2, .keep), (4, .keep), (16, .keep), (17, .keep)]
def vs364 (h n st i : Int) : List AV := [.one (.int .i64 h), .one (.int .i64 n), .one (.int .i64 st), .one (.int .i64 h), .one (.int .i64 i)]
theorem step364 (h n st i : Int) (fuel : Nat) (Λ : Lam AV) (K : AE → List AV → Option AV) :
    loopN (aexec tb (orc [(N399, s399)]) Λ ⟨40, 0, [(0, live364)]⟩ (loop1 F364).2 0) 40 0 live364 K (fuel + 1) (vs364 h n st i) =
    bif decide (i < h) then bif !decide (st = 0) then bif !decide (st = 0) then
      bif i.tmod st == 0 then loopN (aexec tb (orc [(N399, s399)]) Λ ⟨40, 0, [(0, live364)]⟩ (loop1 F364).2 0) 40 0 live364 K fuel (vs364 h (IntKind.i64.wrap (n + IntKind.i64.wrap (h - i))) st (IntKind.i64.wrap (i + 1)))
      else loopN (aexec tb (orc [(N399, s399)]) Λ ⟨40, 0, [(0, live364)]⟩ (loop1 F364).2 0) 40 0 live364 K fuel (vs364 h (IntKind.i64.wrap (n + IntKind.i64.wrap (nxI i st h - i))) st (IntKind.i64.wrap (i + 1)))
    else none else none else K (.exit 0) (vs364 h n st i) := by kernel_rfl
def prS (h st i n : Int) : Int := bif i.tmod st == 0 then IntKind.i64.wrap (n + IntKind.i64.wrap (h - i)) else IntKind.i64.wrap (n + IntKind.i64.wrap (nxI i st h - i))
def prG (h st : Int) : Nat → Nat → Int → Int
  | 0, _, n => n
  | m + 1, j, n => prG h st m (j + 1) (prS h st j n)
def pairsN (h : Int) : Int := prG h (stepN h) h.toNat 0 0
def Λ364 : Lam AV := fun cur vs K =>
  match cur, vs with
  | 0, [.one (.int .i64 h), .one (.int .i64 0), .one (.int .i64 st), .one (.int .i64 h'), .one (.int .i64 0)] =>
    bif decide (h' = h) && decide (1 ≤ h) && decide (h ≤ 32) && decide (st ≠ 0) then K (.exit 0) (vs364 h (prG h st h.toNat 0 0) st h) else none
  | _, _ => none
theorem loop364 : LoopP tb (orc [(N399, s399)]) Λ364 ⟨40, 0, [(0, live364)]⟩ (loop1 F364) := by
  intro vs K out e
  have hcur : (loop1 F364).1 = 0 := by kernel_rfl
  rw [hcur] at e ⊢
  unfold Λ364 at e
  split at e
  · rename_i h st h' _
    cases hc : (decide (h' = h) && decide (1 ≤ h) && decide (h ≤ 32) && decide (st ≠ 0)) with
    | false => rw [hc] at e; cases e
    | true =>
      rw [hc] at e
      simp only [cond_true] at e
      simp only [Bool.and_eq_true, decide_eq_true_eq] at hc
      obtain ⟨⟨⟨rfl, h1⟩, h2⟩, h3⟩ := hc
      obtain ⟨H, rfl⟩ := Int.eq_ofNat_of_zero_le (show 0 ≤ h' by omega)
      refine upLoop (α := Int) (n := H) (F := fun fuel n i => loopN (aexec tb (orc [(N399, s399)]) Λ364 ⟨40, 0, [(0, live364)]⟩ (loop1 F364).2 0) 40 0 live364 K fuel (vs364 H n st i))
        (G := fun j n => K (.exit 0) (vs364 H (prG H st (H - j) j n) st H)) (fun fuel n => ?_) (fun n j hj => ?_) H 0 0 out (by omega) e
      · simp only [step364, nlt_dec, cond_false, Nat.sub_self, prG]
      · left
        refine ⟨prS H st j n, fun fuel => ?_, ?_⟩
        · simp only [step364, lt_dec hj, cond_true, decide_eq_false h3, Bool.not_false]
          unfold prS
          rw [wrap64 (n := (j : Int) + 1) (by omega) (by omega)]
          cases (j : Int).tmod st == 0 <;> rfl
        · have : H - j = (H - (j + 1)) + 1 := by omega
          rw [this, prG]
  · cases e
def pairsI (h : Int) : Int × Int := bif (stepI h).2 != 0 then (0, (stepI h).2) else (pairsN h, 0)
theorem r364 (h : Int) : run (orc [(N399, s399)]) Λ364 [(0, live364)] F364 (encA [.v I] h) [] =
    bif (stepI h).2 != 0 then some (ri2 0 (stepI h).2) else bif decide (h = h) && decide (1 ≤ h) && decide (h ≤ 32) && decide ((stepI h).1 ≠ 0) then some (ri2 (prG h (stepI h).1 h.toNat 0 0) 0) else none := by kernel_rfl
def s364 : Sp := .fn [.v I] fun h => (true, ri2 (pairsI h).1 (pairsI h).2)
theorem g364 : GoodS Try.prog N364 s364 := by
  refine good (.cons g399 (.nil _)) H364 rfl (by kernel_rfl) Λ364 [(0, live364)] (oneLoop (p0 := loop1 F364) (by kernel_rfl) loop364) [.v I] (by decide) [] _ fun h r hw e => ?_
  cases e
  rw [r364]; unfold pairsI
  cases hs : (stepI h).2 != 0 with
  | true => rfl
  | false =>
    obtain ⟨e1, e2⟩ := stepI_ok hs
    have h1 := highB_iff.1 (chk_zero e2).1
    have h2 := stepI_ne hs
    rw [decide_eq_true (show h = h from rfl), decide_eq_true h1.1, decide_eq_true h1.2, decide_eq_true h2, e1]
    rfl
theorem pairsN_all : ((List.range 33).all fun h : Nat => decide (0 ≤ pairsN (h : Int)) && decide (pairsN (h : Int) ≤ 1000)) = true := by kernel_rfl
theorem pairsN_bd {h : Int} (h1 : 1 ≤ h) (h2 : h ≤ 32) : 0 ≤ pairsN h ∧ pairsN h ≤ 1000 := by
  obtain ⟨H, rfl⟩ := Int.eq_ofNat_of_zero_le (show 0 ≤ h by omega)
  have := List.all_eq_true.1 pairsN_all H (List.mem_range.2 (by omega))
  simpa using this

/-! ### store.Many -/
def manyV (h k : Int) : Int × Int := bif (pairsI h).2 != 0 then (0, (pairsI h).2) else bif k == 1 then (IntKind.i64.wrap (h + 1), 0) else
  bif k == 2 then (IntKind.i64.wrap (IntKind.i64.wrap ((IntKind.i64.wrap (h * IntKind.i64.wrap (h + 1))).tdiv 2) + 1), 0) else bif k == 3 then (IntKind.i64.wrap ((pairsI h).1 + 1), 0) else (0, 1)
theorem r326 (h k : Int) : run (orc [(N364, s364)]) noL [] F326 (encA [.v I, .v I] (h, k)) [] = bif (pairsI h).2 != 0 then some (ri2 0 (pairsI h).2) else bif k == 1 then some (ri2 (IntKind.i64.wrap (h + 1)) 0) else
  bif k == 2 then some (ri2 (IntKind.i64.wrap (IntKind.i64.wrap ((IntKind.i64.wrap (h * IntKind.i64.wrap (h + 1))).tdiv 2) + 1)) 0) else bif k == 3 then some (ri2 (IntKind.i64.wrap ((pairsI h).1 + 1)) 0) else some (ri2 0 1) := by kernel_rfl
def s326 : Sp := .fn [.v I, .v I] fun x => (true, ri2 (manyV x.1 x.2).1 (manyV x.1 x.2).2)
theorem g326 : GoodS Try.prog N326 s326 := by
  refine good (.cons g364 (.nil _)) H326 rfl (by kernel_rfl) noL [] (noLoops (by kernel_rfl)) [.v I, .v I] (by decide) [] _ fun x r hw e => ?_
  obtain ⟨h, k⟩ := x
  cases e
  rw [r326]; unfold manyV
  cases (pairsI h).2 != 0 with
  | true => rfl
  | false =>
    cases k == 1 with
    | true => rfl
    | false =>
      cases k == 2 with
      | true => rfl
      | false => cases k == 3 <;> rfl
--CUT
end Go.AM.Seat
