/- The seat: contracts: what may be; pairs; ways. -/
import Derived.Test.YtoeijiackpanoaaSeN5
set_option linter.unusedVariables false
set_option maxRecDepth 100000
namespace Go.AM.Seat
open Go Go.AM Go.Proofs

/-! ### layer.check, May -/
def schE (h k : Int) : Int := bif (bif decide (k < 1) then true else decide (k > 3)) then 1 else chkI h 1
theorem r348 (h k : Int) : run (orc [(N366, s366)]) noL [] F348 (encA [.v I, .v I] (h, k)) [] = bif (bif decide (k < 1) then true else decide (k > 3)) then some (.one (.int .i64 1)) else some (.one (.int .i64 (chkI h 1))) := by kernel_rfl
def s348 : Sp := .fn [.v I, .v I] fun x => (true, .one (.int .i64 (schE x.1 x.2)))
theorem g348 : GoodS Try.prog N348 s348 := by
  refine good (.cons g366 (.nil _)) H348 rfl (by kernel_rfl) noL [] (noLoops (by kernel_rfl)) [.v I, .v I] (by decide) [] _ fun x r hw e => ?_
  obtain ⟨h, k⟩ := x
  cases e
  rw [r348]; unfold schE
  cases (bif decide (k < 1) then true else decide (k > 3)) <;> rfl
def mayB3 (h k : Int) (s : Subset.D) : Bool := bif schE h k != 0 then true else subE h s != 0
def mayI (h k : Int) (s : Subset.D) : Bool × Int := bif mayB3 h k s then (false, 1) else bif k == 1 then (s.2 == 0, 0) else bif k == 2 then (bif s.2 != 0 then true else s.1 == 1, 0) else useI h s
theorem r318 (h k : Int) (s : Subset.D) : run (orc [(N348, s348), (N341, s341), (N327, s327)]) noL [] F318 (encA [.v I, .v I, .v Subset] (h, k, s)) [] =
    bif mayB3 h k s then some (rb2 false 1) else bif k == 1 then some (rb2 (s.2 == 0) 0) else bif k == 2 then some (rb2 (bif s.2 != 0 then true else s.1 == 1) 0) else some (rb2 (useI h s).1 (useI h s).2) := by kernel_rfl
def s318 : Sp := .fn [.v I, .v I, .v Subset] fun x => (true, rb2 (mayI x.1 x.2.1 x.2.2).1 (mayI x.1 x.2.1 x.2.2).2)
theorem g318 : GoodS Try.prog N318 s318 := by
  refine good (.cons g348 (.cons g341 (.cons g327 (.nil _)))) H318 rfl (by kernel_rfl) noL [] (noLoops (by kernel_rfl)) [.v I, .v I, .v Subset] (by decide) [] _ fun x r hw e => ?_
  obtain ⟨h, k, s⟩ := x
  cases e
  rw [r318]; unfold mayI
  cases mayB3 h k s with
  | true => rfl
  | false =>
    cases k == 1 with
    | true => rfl
    | false => cases k == 2 <;> rfl

/-! ### layer.Pairs -/
abbrev live364 : List (Nat × Dir) := [(0, .keep), (2, .keep), (4, .keep), (16, .keep), (17, .keep)]
def vs364 (h n st i : Int) : List AV := [.one (.int .i64 h), .one (.int .i64 n), .one (.int .i64 st), .one (.int .i64 h), .one (.int .i64 i)]
theorem step364 (h n st i : Int) (fuel : Nat) (Λ : Lam AV) (K : AE → List AV → Option AV) :
    loopN (aexec tb (orc [(N399, s399)]) Λ ⟨40, 0, [(0, live364)]⟩ (loop1 F364).2 0) 40 0 live364 K (fuel + 1) (vs364 h n st i) =
    bif decide (i < h) then bif !decide (st = 0) then bif !decide (st = 0) then
      bif i.tmod st == 0 then loopN (aexec tb (orc [(N399, s399)]) Λ ⟨40, 0, [(0, live364)]⟩ (loop1 F364).2 0) 40 0 live364 K fuel (vs364 h (IntKind.i64.wrap (n + IntKind.i64.wrap (h - i))) st (IntKind.i64.wrap (i + 1)))
      else loopN (aexec tb (orc [(N399, s399)]) Λ ⟨40, 0, [(0, live364)]⟩ (loop1 F364).2 0) 40 0 live364 K fuel (vs364 h (IntKind.i64.wrap (n + IntKind.i64.wrap (nxI i st h - i))) st (IntKind.i64.wrap (i + 1)))
    else none else none else K (.exit 0) (vs364 h n st i) := by kernel_rfl
def prS (h st i n : Int) : Int := bif i.tmod st == 0 then IntKind.i64.wrap (n + IntKind.i64.wrap (h - i)) else IntKind.i64.wrap (n + IntKind.i64.wrap (nxI i st h - i))
def prG (h st : Int) : Nat → Nat → Int → Int
  | 0, _, n => n
  | m + 1, j, n => prG h st m (j + 1) (prS h st j n)
def pairsN (h : Int) : Int := prG h (stepN h) h.toNat 0 0
def Λ364 : Lam AV := fun cur vs K =>
  match cur, vs with
  | 0, [.one (.int .i64 h), .one (.int .i64 0), .one (.int .i64 st), .one (.int .i64 h'), .one (.int .i64 0)] =>
    bif decide (h' = h) && decide (1 ≤ h) && decide (h ≤ 32) && decide (st ≠ 0) then K (.exit 0) (vs364 h (prG h st h.toNat 0 0) st h) else none
  | _, _ => none
theorem loop364 : LoopP tb (orc [(N399, s399)]) Λ364 ⟨40, 0, [(0, live364)]⟩ (loop1 F364) := by
  intro vs K out e
  have hcur : (loop1 F364).1 = 0 := by kernel_rfl
  rw [hcur] at e ⊢
  unfold Λ364 at e
  split at e
  · rename_i h st h' _
    cases hc : (decide (h' = h) && decide (1 ≤ h) && decide (h ≤ 32) && decide (st ≠ 0)) with
    | false => rw [hc] at e; cases e
    | true =>
      rw [hc] at e
      simp only [cond_true] at e
      simp only [Bool.and_eq_true, decide_eq_true_eq] at hc
      obtain ⟨⟨⟨rfl, h1⟩, h2⟩, h3⟩ := hc
      obtain ⟨H, rfl⟩ := Int.eq_ofNat_of_zero_le (show 0 ≤ h' by omega)
      refine upLoop (α := Int) (n := H) (F := fun fuel n i => loopN (aexec tb (orc [(N399, s399)]) Λ364 ⟨40, 0, [(0, live364)]⟩ (loop1 F364).2 0) 40 0 live364 K fuel (vs364 H n st i))
        (G := fun j n => K (.exit 0) (vs364 H (prG H st (H - j) j n) st H)) (fun fuel n => ?_) (fun n j hj => ?_) H 0 0 out (by omega) e
      · simp only [step364, nlt_dec, cond_false, Nat.sub_self, prG]
      · left
        refine ⟨prS H st j n, fun fuel => ?_, ?_⟩
        · simp only [step364, lt_dec hj, cond_true, decide_eq_false h3, Bool.not_false]
          unfold prS
          rw [wrap64 (n := (j : Int) + 1) (by omega) (by omega)]
          cases (j : Int).tmod st == 0 <;> rfl
        · have : H - j = (H - (j + 1)) + 1 := by omega
          rw [this, prG]
  · cases e
def pairsI (h : Int) : Int × Int := bif (stepI h).2 != 0 then (0, (stepI h).2) else (pairsN h, 0)
theorem r364 (h : Int) : run (orc [(N399, s399)]) Λ364 [(0, live364)] F364 (encA [.v I] h) [] =
    bif (stepI h).2 != 0 then some (ri2 0 (stepI h).2) else bif decide (h = h) && decide (1 ≤ h) && decide (h ≤ 32) && decide ((stepI h).1 ≠ 0) then some (ri2 (prG h (stepI h).1 h.toNat 0 0) 0) else none := by kernel_rfl
def s364 : Sp := .fn [.v I] fun h => (true, ri2 (pairsI h).1 (pairsI h).2)
theorem g364 : GoodS Try.prog N364 s364 := by
  refine good (.cons g399 (.nil _)) H364 rfl (by kernel_rfl) Λ364 [(0, live364)] (oneLoop (p0 := loop1 F364) (by kernel_rfl) loop364) [.v I] (by decide) [] _ fun h r hw e => ?_
  cases e
  rw [r364]; unfold pairsI
  cases hs : (stepI h).2 != 0 with
  | true => rfl
  | false =>
    obtain ⟨e1, e2⟩ := stepI_ok hs
    have h1 := highB_iff.1 (chk_zero e2).1
    have h2 := stepI_ne hs
    rw [decide_eq_true (show h = h from rfl), decide_eq_true h1.1, decide_eq_true h1.2, decide_eq_true h2, e1]
    rfl
theorem pairsN_all : ((List.range 33).all fun h : Nat => decide (0 ≤ pairsN (h : Int)) && decide (pairsN (h : Int) ≤ 1000)) = true := by kernel_rfl
theorem pairsN_bd {h : Int} (h1 : 1 ≤ h) (h2 : h ≤ 32) : 0 ≤ pairsN h ∧ pairsN h ≤ 1000 := by
  obtain ⟨H, rfl⟩ := Int.eq_ofNat_of_zero_le (show 0 ≤ h by omega)
  have := List.all_eq_true.1 pairsN_all H (List.mem_range.2 (by omega))
  simpa using this

/-! ### store.Many -/
def manyV (h k : Int) : Int × Int := bif (pairsI h).2 != 0 then (0, (pairsI h).2) else bif k == 1 then (IntKind.i64.wrap (h + 1), 0) else
  bif k == 2 then (IntKind.i64.wrap (IntKind.i64.wrap ((IntKind.i64.wrap (h * IntKind.i64.wrap (h + 1))).tdiv 2) + 1), 0) else bif k == 3 then (IntKind.i64.wrap ((pairsI h).1 + 1), 0) else (0, 1)
theorem r326 (h k : Int) : run (orc [(N364, s364)]) noL [] F326 (encA [.v I, .v I] (h, k)) [] = bif (pairsI h).2 != 0 then some (ri2 0 (pairsI h).2) else bif k == 1 then some (ri2 (IntKind.i64.wrap (h + 1)) 0) else
  bif k == 2 then some (ri2 (IntKind.i64.wrap (IntKind.i64.wrap ((IntKind.i64.wrap (h * IntKind.i64.wrap (h + 1))).tdiv 2) + 1)) 0) else bif k == 3 then some (ri2 (IntKind.i64.wrap ((pairsI h).1 + 1)) 0) else some (ri2 0 1) := by kernel_rfl
def s326 : Sp := .fn [.v I, .v I] fun x => (true, ri2 (manyV x.1 x.2).1 (manyV x.1 x.2).2)
theorem g326 : GoodS Try.prog N326 s326 := by
  refine good (.cons g364 (.nil _)) H326 rfl (by kernel_rfl) noL [] (noLoops (by kernel_rfl)) [.v I, .v I] (by decide) [] _ fun x r hw e => ?_
  obtain ⟨h, k⟩ := x
  cases e
  rw [r326]; unfold manyV
  cases (pairsI h).2 != 0 with
  | true => rfl
  | false =>
    cases k == 1 with
    | true => rfl
    | false =>
      cases k == 2 with
      | true => rfl
      | false => cases k == 3 <;> rfl
--CUT
end Go.AM.Seat
