/- The law TermWithin: its run. -/
import Derived.Test.YtnkdeglckmogcaaDoorSeLv6
import Derived.Test.YtnkdeglckmogcaaDoorPlWd
set_option linter.unusedVariables false
set_option linter.unusedSimpArgs false
set_option maxRecDepth 100000
namespace Go.AM.Seat
open Go Go.AM Go.Proofs

def Γ507 : Orc := orc [(N508, sLive), (N35, s35), (N519, s519), (N36, s74)]
theorem Γ507ok : OrcOk Tryd.prog Γ507 := .cons g508 (.cons g35 (.cons g519 (.cons g36 (.nil _))))
abbrev live507 : List (Nat × List (Nat × Dir)) := [(0, [(0, .keep), (1, .keep), (5, .keep), (6, .keep), (8, .keep), (10, .keep), (67, .keep), (68, .keep), (69, .keep)]),
  (2, [(0, .keep), (1, .keep), (5, .keep), (6, .keep), (8, .keep), (10, .keep), (12, .keep), (67, .keep), (68, .keep), (69, .keep), (122, .keep), (123, .keep), (124, .keep)]),
  (4, [(0, .keep), (1, .keep), (5, .keep), (6, .keep), (8, .keep), (10, .keep), (12, .keep), (16, .keep), (17, .keep), (67, .keep), (68, .keep), (69, .keep), (122, .keep), (123, .keep), (124, .keep), (128, .keep), (129, .keep), (130, .keep)])]
abbrev sw (w : List Int) : AV := .one (.sl true I none w)
abbrev ii (n : Int) : AV := .one (.int .i64 n)
def vo (l : List Term.D) (a : Int) (u : Bool) (w : List Int) (dp m n i : Int) : List AV := [.one (.sl false Term none l), ii a, .one (.bool u), sw w, ii dp, ii m, sw w, ii n, ii i]
def vm (l : List Term.D) (a : Int) (u : Bool) (w : List Int) (dp m x n i : Int) (ps : List Int) (k j : Int) : List AV := [.one (.sl false Term none l), ii a, .one (.bool u), sw w, ii dp, ii m, ii x, sw w, ii n, ii i, sw ps, ii k, ii j]
def vi (l : List Term.D) (a : Int) (u : Bool) (w : List Int) (dp m x p : Int) (b : Bool) (n i : Int) (ps : List Int) (k j c y : Int) : List AV := [.one (.sl false Term none l), ii a, .one (.bool u), sw w, ii dp, ii m, ii x, ii p, .one (.bool b), sw w, ii n, ii i, sw ps, ii k, ii j, sw w, ii c, ii y]
noncomputable abbrev lo507 (Λ : Lam AV) (K : AE → List AV → Option AV) (fuel : Nat) (vs : List AV) : Option AV := loopN (aexec tb Γ507 Λ ⟨157, 0, live507⟩ (lkW F507 0).2 0) 157 0 (Lay.get ⟨157, 0, live507⟩ 0) K fuel vs
noncomputable abbrev lm507 (Λ : Lam AV) (K : AE → List AV → Option AV) (fuel : Nat) (vs : List AV) : Option AV := loopN (aexec tb Γ507 Λ ⟨157, 0, live507⟩ (lkW F507 1).2 2) 157 0 (Lay.get ⟨157, 0, live507⟩ 2) K fuel vs
noncomputable abbrev li507 (Λ : Lam AV) (K : AE → List AV → Option AV) (fuel : Nat) (vs : List AV) : Option AV := loopN (aexec tb Γ507 Λ ⟨157, 0, live507⟩ (lkW F507 2).2 4) 157 0 (Lay.get ⟨157, 0, live507⟩ 4) K fuel vs
def memF (p : Int) : List Int → Bool → Bool
  | [], b => b
  | y :: r, b => memF p r (bif b then true else y == p)
def okP (w : List Int) (x p : Int) : Bool := !(bif !memF p w false then true else decide (p ≥ x))
def gd1 (w : List Int) (i : Int) : Bool := inB (IntKind.i64.wrap (i - 1)) w.length || !boolBeq (decide (i > 0)) true
def bad1 (w : List Int) (a i : Int) : Bool := bif bif bif decide (i > 0) then decide (iA w (IntKind.i64.wrap (i - 1)) ≥ iA w i) else false then true else decide (iA w i < 0) then true else decide (iA w i > a)
def bad2 (l : List Term.D) (w : List Int) (a dp i : Int) : Bool := bif (deepI l (iA w i)).2 != 0 then true else bif iA w i != a then decide ((deepI l (iA w i)).1 ≥ dp) else false
def okI (l : List Term.D) (w : List Int) (a dp i : Int) : Bool := gd1 w i && (!bad1 w a i && (!bad2 l w a dp i && (inB (iA w i) l.length && (partsL (tAt l (iA w i))).all (okP w (iA w i)))))
def mx1 (l : List Term.D) (a : Int) (m x : Int) : Int := bif x != a then maxI m (deepI l x).1 else m
def mxF (l : List Term.D) (a : Int) : List Int → Int → Int
  | [], m => m
  | x :: r, m => mxF l a r (mx1 l a m x)
def okAll (l : List Term.D) (w : List Int) (a dp : Int) : Bool := (List.range w.length).all fun i => okI l w a dp i
def Λ507 : Lam AV := fun cur vs K =>
  match cur, vs with
  | 0, [.one (.sl false (.pair (.int .i64) (.pair (.int .i64) (.int .i64))) none l), .one (.int .i64 a), .one (.bool u), .one (.sl true (.int .i64) none w), .one (.int .i64 dp), .one (.int .i64 m), .one (.sl true (.int .i64) none w'), .one (.int .i64 n), .one (.int .i64 0)] =>
    bif decide (n = w.length) && decide (n ≤ 9223372036854775807) && decide (w' = w) && okAll l w a dp then K (.exit 0) (vo l a u w dp (mxF l a w m) n n) else none
  | 2, [.one (.sl false (.pair (.int .i64) (.pair (.int .i64) (.int .i64))) none l), .one (.int .i64 a), .one (.bool u), .one (.sl true (.int .i64) none w), .one (.int .i64 dp), .one (.int .i64 m), .one (.int .i64 x), .one (.sl true (.int .i64) none w'), .one (.int .i64 n), .one (.int .i64 i), .one (.sl true (.int .i64) none ps), .one (.int .i64 k), .one (.int .i64 0)] =>
    bif decide (k = ps.length) && decide (k ≤ 9223372036854775807) && decide (w' = w) && (lenI w && ps.all (okP w x)) then K (.exit 2) (vm l a u w dp m x n i ps k k) else none
  | 4, [.one (.sl false (.pair (.int .i64) (.pair (.int .i64) (.int .i64))) none l), .one (.int .i64 a), .one (.bool u), .one (.sl true (.int .i64) none w), .one (.int .i64 dp), .one (.int .i64 m), .one (.int .i64 x), .one (.int .i64 p), .one (.bool b), .one (.sl true (.int .i64) none w'), .one (.int .i64 n), .one (.int .i64 i), .one (.sl true (.int .i64) none ps), .one (.int .i64 k), .one (.int .i64 j), .one (.sl true (.int .i64) none w''), .one (.int .i64 c), .one (.int .i64 0)] =>
    bif decide (c = w.length) && decide (c ≤ 9223372036854775807) && decide (w' = w) && decide (w'' = w) then K (.exit 4) (vi l a u w dp m x p (memF p w b) n i ps k j c c) else none
  | _, _ => none
theorem step4 (l : List Term.D) (a : Int) (u : Bool) (w : List Int) (dp m x p : Int) (b : Bool) (n i : Int) (ps : List Int) (k j c y : Int) (Λ : Lam AV) (K : AE → List AV → Option AV) (fuel : Nat) : li507 Λ K (fuel + 1) (vi l a u w dp m x p b n i ps k j c y) =
    bif decide (y < c) then bif inB y w.length then li507 Λ K fuel (vi l a u w dp m x p (bif b then true else iA w y == p) n i ps k j c (IntKind.i64.wrap (y + 1))) else none else K (.exit 4) (vi l a u w dp m x p b n i ps k j c y) := by kernel_rfl
def selfD (w : List Int) : Bool := decide (w = w)
theorem selfD_true (w : List Int) : selfD w = true := decide_eq_true rfl
theorem step2 (l : List Term.D) (a : Int) (u : Bool) (w : List Int) (dp m x n i : Int) (ps : List Int) (k j : Int) (K : AE → List AV → Option AV) (fuel : Nat) : lm507 Λ507 K (fuel + 1) (vm l a u w dp m x n i ps k j) =
    bif decide (j < k) then bif inB j ps.length then bif lenI w && selfD w && selfD w then bif bif !memF (iA ps j) w false then true else decide (iA ps j ≥ x) then K .ret (vm l a u w dp m x n i ps k j) else
      lm507 Λ507 K fuel (vm l a u w dp m x n i ps k (IntKind.i64.wrap (j + 1))) else none else none else K (.exit 2) (vm l a u w dp m x n i ps k j) := by kernel_rfl
theorem step0 (l : List Term.D) (a : Int) (u : Bool) (w : List Int) (dp m n i : Int) (K : AE → List AV → Option AV) (fuel : Nat) : lo507 Λ507 K (fuel + 1) (vo l a u w dp m n i) =
    bif decide (i < n) then bif inB i w.length then bif gd1 w i then bif bad1 w a i then K .ret (vo l a u w dp m n i) else bif bad2 l w a dp i then K .ret (vo l a u w dp m n i) else
      bif iA w i != a then bif inB (iA w i) l.length then
        bif lenI (partsL (tAt l (iA w i))) && selfD w && (lenI w && (partsL (tAt l (iA w i))).all (okP w (iA w i))) then lo507 Λ507 K fuel (vo l a u w dp (maxI m (deepI l (iA w i)).1) n (IntKind.i64.wrap (i + 1))) else none else none
      else bif inB (iA w i) l.length then
        bif lenI (partsL (tAt l (iA w i))) && selfD w && (lenI w && (partsL (tAt l (iA w i))).all (okP w (iA w i))) then lo507 Λ507 K fuel (vo l a u w dp m n (IntKind.i64.wrap (i + 1))) else none else none
      else none else none else K (.exit 0) (vo l a u w dp m n i) := by kernel_rfl
def lastI (w : List Int) : Int := iA w (IntKind.i64.wrap ((w.length : Int) - 1))
theorem r507 (l : List Term.D) (a : Int) : run Γ507 Λ507 live507 F507 (encA [.v (.sl Term), .v I] (l, a)) [] =
    bif decide ((l.length : Int) > 60) then some (.one (.bool true)) else
    bif (withinI l a).2 != 0 then some (.one (.bool (bif (withinI l a).2 == (deepI l a).2 then ((withinI l a).1.length : Int) == 0 else false))) else
    bif inB (IntKind.i64.wrap (((withinI l a).1.length : Int) - 1)) (withinI l a).1.length || !boolBeq (bif (deepI l a).2 != 0 then true else ((withinI l a).1.length : Int) == 0) false then
      bif bif bif (deepI l a).2 != 0 then true else ((withinI l a).1.length : Int) == 0 then true else lastI (withinI l a).1 != a then some (.one (.bool false)) else
      bif lenI (withinI l a).1 && selfD (withinI l a).1 && okAll l (withinI l a).1 a (deepI l a).1 then
        some (.one (.bool ((deepI l a).1 == IntKind.i64.wrap (mxF l a (withinI l a).1 (-1) + 1)))) else none
    else none := by kernel_rfl
theorem inner507 (Λ : Lam AV) (l : List Term.D) (a : Int) (u : Bool) (w : List Int) (hw : w.length ≤ 9223372036854775807) (dp m x p n i : Int) (ps : List Int) (k j : Int) (K : AE → List AV → Option AV) (out : AV) : ∀ (q y : Nat) (b : Bool), y + q = w.length →
    K (.exit 4) (vi l a u w dp m x p (memF p (w.drop y) b) n i ps k j w.length w.length) = some out → ∃ fuel, li507 Λ K fuel (vi l a u w dp m x p b n i ps k j w.length y) = some out := by
  intro q
  induction q with
  | zero =>
    intro y b hy hk
    obtain rfl : y = w.length := by omega
    rw [List.drop_length] at hk
    exact ⟨1, by rw [step4, nlt_dec]; exact hk⟩
  | succ q ih =>
    intro y b hy hk
    have hyl : y < w.length := by omega
    rw [iA_cons hyl] at hk
    obtain ⟨fuel, hf⟩ := ih (y + 1) _ (by omega) hk
    exact ⟨fuel + 1, by rw [step4, lt_dec hyl, inB_lt hyl, wrap64 (n := (y : Int) + 1) (by omega) (by omega)]; exact hf⟩
theorem all_drop {f : Int → Bool} {ps : List Int} {j : Nat} (hj : j < ps.length) (h : ps.all f = true) : f (iA ps j) = true := by
  rw [iA_nat hj]; exact List.all_eq_true.1 h _ (List.getElem_mem hj)
theorem mid507 (l : List Term.D) (a : Int) (u : Bool) (w : List Int) (hw : lenI w = true) (dp m x n i : Int) (ps : List Int) (hps : ps.length ≤ 9223372036854775807) (hall : ps.all (okP w x) = true) (K : AE → List AV → Option AV) (out : AV) : ∀ (q j : Nat), j + q = ps.length →
    K (.exit 2) (vm l a u w dp m x n i ps ps.length ps.length) = some out → ∃ fuel, lm507 Λ507 K fuel (vm l a u w dp m x n i ps ps.length j) = some out := by
  intro q
  induction q with
  | zero =>
    intro j hj hk
    obtain rfl : j = ps.length := by omega
    exact ⟨1, by rw [step2, nlt_dec]; exact hk⟩
  | succ q ih =>
    intro j hj hk
    have hjl : j < ps.length := by omega
    have hok := all_drop hjl hall
    unfold okP at hok
    simp only [Bool.not_eq_true'] at hok
    obtain ⟨fuel, hf⟩ := ih (j + 1) (by omega) hk
    refine ⟨fuel + 1, ?_⟩
    rw [step2, lt_dec hjl, inB_lt hjl, hw, selfD_true, hok, wrap64 (n := (j : Int) + 1) (by omega) (by omega)]
    exact hf
theorem outer507 (l : List Term.D) (a : Int) (u : Bool) (w : List Int) (hw : lenI w = true) (hwm : w.length ≤ 9223372036854775807) (dp : Int) (hall : okAll l w a dp = true) (K : AE → List AV → Option AV) (out : AV) : ∀ (q i : Nat) (m : Int), i + q = w.length →
    K (.exit 0) (vo l a u w dp (mxF l a (w.drop i) m) w.length w.length) = some out → ∃ fuel, lo507 Λ507 K fuel (vo l a u w dp m w.length i) = some out := by
  intro q
  induction q with
  | zero =>
    intro i m hi hk
    obtain rfl : i = w.length := by omega
    rw [List.drop_length] at hk
    exact ⟨1, by rw [step0, nlt_dec]; exact hk⟩
  | succ q ih =>
    intro i m hi hk
    have hil : i < w.length := by omega
    have hok : okI l w a dp i = true := List.all_eq_true.1 hall i (List.mem_range.2 hil)
    unfold okI at hok
    simp only [Bool.and_eq_true, Bool.not_eq_true'] at hok
    obtain ⟨o1, o2, o3, o4, o5⟩ := hok
    rw [iA_cons hil] at hk
    simp only [mxF] at hk
    obtain ⟨fuel, hf⟩ := ih (i + 1) _ (by omega) hk
    refine ⟨fuel + 1, ?_⟩
    rw [step0, lt_dec hil, inB_lt hil, o1, o2, o3, o4, o5, lenI_parts, selfD_true, hw, wrap64 (n := (i : Int) + 1) (by omega) (by omega)]
    unfold mx1 at hf
    cases hx : iA w (i : Int) != a with
    | true => rw [hx] at hf; exact hf
    | false => rw [hx] at hf; exact hf
theorem len_lenI {l : List Int} (h : (l.length : Int) ≤ 9223372036854775807) : lenI l = true := by
  unfold lenI
  rw [decide_eq_true h, Bool.and_true]; exact decide_eq_true rfl
theorem loop507 : (∀ p ∈ loopsOf 0 (body F507), LoopP tb Γ507 Λ507 ⟨157, 0, live507⟩ p) := by
  have h3 : loopsOf 0 (body F507) = [lkW F507 0, lkW F507 1, lkW F507 2] := by kernel_rfl
  rw [h3]
  intro p hp vs K out h
  have c0 : (lkW F507 0).1 = 0 := by kernel_rfl
  have c1 : (lkW F507 1).1 = 2 := by kernel_rfl
  have c2 : (lkW F507 2).1 = 4 := by kernel_rfl
  simp only [List.mem_cons, List.mem_nil_iff, or_false] at hp
  rcases hp with rfl | rfl | rfl
  · rw [c0] at h ⊢
    unfold Λ507 at h
    split at h
    · rename_i l a u w dp m w' n _
      cases hc : (decide (n = w.length) && decide (n ≤ 9223372036854775807) && decide (w' = w) && okAll l w a dp) with
      | false => rw [hc] at h; cases h
      | true =>
        rw [hc] at h
        simp only [cond_true] at h
        simp only [Bool.and_eq_true, decide_eq_true_eq] at hc
        obtain ⟨⟨⟨rfl, hmax⟩, rfl⟩, hall⟩ := hc
        exact outer507 l a u w' (len_lenI hmax) (by omega) dp hall K out w'.length 0 m (by omega) h
    · exact absurd (show (0 : Nat) = 2 by assumption) (by decide)
    · exact absurd (show (0 : Nat) = 4 by assumption) (by decide)
    · cases h
  · rw [c1] at h ⊢
    unfold Λ507 at h
    split at h
    · exact absurd (show (2 : Nat) = 0 by assumption) (by decide)
    · rename_i l a u w dp m x w' n i ps k _
      cases hc : (decide (k = ps.length) && decide (k ≤ 9223372036854775807) && decide (w' = w) && (lenI w && ps.all (okP w x))) with
      | false => rw [hc] at h; cases h
      | true =>
        rw [hc] at h
        simp only [cond_true] at h
        simp only [Bool.and_eq_true, decide_eq_true_eq] at hc
        obtain ⟨⟨⟨rfl, hmax⟩, rfl⟩, hw, hall⟩ := hc
        exact mid507 l a u w' hw dp m x n i ps (by omega) hall K out ps.length 0 (by omega) h
    · exact absurd (show (2 : Nat) = 4 by assumption) (by decide)
    · cases h
  · rw [c2] at h ⊢
    unfold Λ507 at h
    split at h
    · exact absurd (show (4 : Nat) = 0 by assumption) (by decide)
    · exact absurd (show (4 : Nat) = 2 by assumption) (by decide)
    · rename_i l a u w dp m x p b w' n i ps k j w'' c _
      cases hc : (decide (c = w.length) && decide (c ≤ 9223372036854775807) && decide (w' = w) && decide (w'' = w)) with
      | false => rw [hc] at h; cases h
      | true =>
        rw [hc] at h
        simp only [cond_true] at h
        simp only [Bool.and_eq_true, decide_eq_true_eq] at hc
        obtain ⟨⟨⟨rfl, hmax⟩, rfl⟩, rfl⟩ := hc
        exact inner507 Λ507 l a u w'' (by omega) dp m x p n i ps k j K out w''.length 0 b (by omega) h
    · cases h
end Go.AM.Seat
