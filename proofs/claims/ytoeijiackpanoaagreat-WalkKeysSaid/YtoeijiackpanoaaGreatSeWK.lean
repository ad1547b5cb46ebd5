/- The seat: contracts: walk.Key, whose terms the caller may write. -/
import Derived.Test.YtoeijiackpanoaaGreatSl5
set_option linter.unusedVariables false
set_option linter.unusedSimpArgs false
set_option maxRecDepth 100000
namespace Go.AM.Seat
open Go Go.AM Go.Proofs

/-! ### label.Walk -/
def Γ346h : Orc := orcL 47 [(N351, s351h), (N67, s67o), (N353, s353h), (N354, s354h)]
theorem Γ346hok : OrcOk Tryz.prog Γ346h := OrcOk.toL 47 (.cons g351h (.cons g67o (.cons g353h (.cons g354h (.nil _)))))
abbrev live346h : List (Nat × Dir) := [(6, .keep), (9, .keep), (32, .keep), (33, .keep), (34, .keep), (47, .keep), (48, .keep)]
def vs346h (l : List Int) (n i : Int) (x : WS) : List AV := [.own (enc Value false zeroV), .one (.ptr 47 0), .one (.sl false I none l), .one (.int .i64 n), .one (.int .i64 i), .gho (obW 48 x).ov, .gho (AV.arr true Term x.2.1).ov]
noncomputable abbrev lp346h (Λ : Lam (AV × List AV)) (K : AE → List AV → Option (AV × List AV)) (fuel : Nat) (vs : List AV) : Option (AV × List AV) := loopN (aexec tb Γ346h Λ ⟨47, 2, [(0, live346h)]⟩ (loopK F346 0).2 0) 47 2 live346h K fuel vs
def unW48 : OV → OV → Option WS
  | .own [.hot 48 none, .bool a, .bool b, .int .u64 c, .int .u64 d, .int .u64 e, .int .u64 f, .int .u64 g, .int .u64 h, .int .i64 t, .int .i64 er], .arr true (.pair (.int .i64) (.pair (.int .i64) (.int .i64))) l => some ((a, b, (c, d), ((e, f), (g, h)), t), l, er)
  | _, _ => none
theorem unW48_eq {a g : OV} {x : WS} (h : unW48 a g = some x) : a = (obW 48 x).ov ∧ g = (AV.arr true Term x.2.1).ov := by
  unfold unW48 at h
  split at h
  · cases h; exact ⟨rfl, rfl⟩
  · cases h
def Λ346h : Lam (AV × List AV) := fun cur vs K =>
  match cur, vs with
  | 0, [.own [.bool false, .bool false, .int .u64 0, .int .u64 0, .int .u64 0, .int .u64 0, .int .u64 0, .int .u64 0, .int .i64 0], .one (.ptr 47 0), .one (.sl false (.int .i64) none l), .one (.int .i64 n), .one (.int .i64 0), .gho o, .gho q] =>
    (match unW48 o q with
    | some x => bif decide (n = l.length) && decide (n ≤ 9223372036854775807) then K (.exit 0) (vs346h l n n (walkL x l)) else none
    | none => none)
  | _, _ => none
theorem step346h (l : List Int) (n i : Int) (x : WS) (Λ : Lam (AV × List AV)) (fuel : Nat) (K : AE → List AV → Option (AV × List AV)) : lp346h Λ K (fuel + 1) (vs346h l n i x) =
    bif decide (i < n) then bif inB i l.length then lp346h Λ K fuel (vs346h l n (IntKind.i64.wrap (i + 1)) (stepW x (iAt l i))) else none else K (.exit 0) (vs346h l n i x) := by kernel_rfl
theorem loop346h : LoopP tb Γ346h Λ346h ⟨47, 2, [(0, live346h)]⟩ (loopK F346 0) := by
  intro vs K out e
  have hcur : (loopK F346 0).1 = 0 := by kernel_rfl
  rw [hcur] at e ⊢
  unfold Λ346h at e
  split at e
  · rename_i l n o q _
    split at e
    · rename_i x hx
      cases hc : (decide (n = l.length) && decide (n ≤ 9223372036854775807)) with
      | false => rw [hc] at e; cases e
      | true =>
        rw [hc] at e
        simp only [cond_true] at e
        simp only [Bool.and_eq_true, decide_eq_true_eq] at hc
        obtain ⟨rfl, hmax⟩ := hc
        obtain ⟨rfl, rfl⟩ := unW48_eq hx
        refine upLoopR (α := WS) (n := l.length) (F := fun fuel x i => lp346h Λ346h K fuel (vs346h l l.length i x)) (G := fun j x => K (.exit 0) (vs346h l l.length l.length (walkL x (l.drop j))))
          (fun fuel x => ?_) (fun x j hj => ?_) l.length 0 x out (by omega) e
        · simp only [step346h, nlt_dec, cond_false, List.drop_length, walkL]
        · left
          refine ⟨stepW x (iAt l j), fun fuel => ?_, by rw [walk_drop hj]⟩
          simp only [step346h, lt_dec hj, inB_lt hj, cond_true]
          rw [wrap64 (by omega) (by omega)]; rfl
    · cases e
  · cases e
theorem r346h (l : List Term.D) (v : Value.D) (sd : List Int) : runIO Γ346h Λ346h 2 [(0, live346h)] F346 (encA W3 (l, v, sd)) [] 0 wRow =
    bif small24 l.length then bif noWalk l v sd then some (rowV zeroV 1, [.arr true Term []]) else bif lenB sd then some (rowV (endW (walkL (startW l v) sd)).1 (endW (walkL (startW l v) sd)).2.2, [.arr true Term (endW (walkL (startW l v) sd)).2.1]) else none else none := by kernel_rfl
def s346io : Sp := .io fun a p gs => match a, p, gs with
  | [.one (.sl false (.pair (.int .i64) (.pair (.int .i64) (.int .i64))) none l), g, .one (.sl false (.int .i64) none sd)], 0, [] => (match unV g with
    | some v => some (small24 l.length && lenB sd, rowV (walkV l v sd).1 (walkV l v sd).2.2, [.arr true Term (walkV l v sd).2.1])
    | none => none)
  | _, _, _ => none
theorem g346io : GoodS Tryz.prog N346 s346io := by
  refine GoodS.io (callable_of H346 (bd rfl) (by kernel_rfl)) fun a p gs r gs' hw1 hw2 h => ?_
  clear hw1 hw2
  split at h
  · rename_i l g sd
    split at h
    · rename_i v hv
      obtain rfl := unV_eq hv
      simp only [Option.some.injEq, Prod.mk.injEq, Bool.and_eq_true] at h
      obtain ⟨⟨hs, hl⟩, rfl, rfl⟩ := h
      refine goodIO0 Γ346hok H346 rfl Λ346h 2 [(0, live346h)] (oneLoop2 (p0 := loopK F346 0) (by kernel_rfl) loop346h) (encA W3 (l, v, sd)) rfl (by show 3 ≤ _; decide) wRow ((r346h l v sd).trans ?_) (fun x hx => by cases hx; decide)
      rw [hs, hl]
      unfold walkV
      cases noWalk l v sd <;> rfl
    · cases h
  · cases h
/-! ### walk.Key -/
def Γ319h : Orc := orcL 71 [(N349, s349), (N309, s309), (N346, s346io), (N22, s22h)]
theorem Γ319hok : OrcOk Tryz.prog Γ319h := OrcOk.toL 71 (.cons g349 (.cons g309 (.cons g346io (.cons g22h (.nil _)))))
def rowW (x : WS) : Option (AV × List AV) := some (rowV x.1 x.2.2, [.arr true Term x.2.1])
def fin319h (x : WS) (s : Subset.D) : Option (AV × List AV) := bif (bif x.2.2 != 0 then true else s.2 == 0) then rowW x else rowW (partV x.2.1 x.1 2)
theorem r319h (l : List Term.D) (h k i : Int) (es : List Entry.D) (s : Subset.D) : runIO Γ319h noL2 2 [] F319 (encA K6 (l, h, k, i, es, s)) [] 0 wRow =
    bif checkS l h k i es != 0 then rowW (zeroV, [], checkS l h k i es) else bif (entryI h k i s).2.2 != 0 then rowW (zeroV, [], (entryI h k i s).2.2) else
    bif inB (entryI h k i s).1 es.length then bif small24 l.length && lenB (entryI h k i s).2.1 then fin319h (keyT l h k i es s) s else none else none := by kernel_rfl
/-! ### the definition's -/
def Γ713 : Orc := orc [(N334, s310), (N51, s51), (N633, s633)]
noncomputable abbrev lp713 (Λ : Lam AV) (K : AE → List AV → Option AV) (fuel : Nat) (vs : List AV) : Option AV := loopN (aexec tb Γ713 Λ ⟨69, 0, [(0, live349)]⟩ (loopK F713 0).2 0) 69 0 live349 K fuel vs
def Γ706 : Orc := orc [(N713, s349), (N314, s309), (N615, s615), (N23, s22)]
theorem r706 (l : List Term.D) (h k i : Int) (es : List Entry.D) (s : Subset.D) : run Γ706 noL [] F706 (encA K6 (l, h, k, i, es, s)) wVle =
    bif checkS l h k i es != 0 then some (vle (zeroV, [], 1)) else bif (entryI h k i s).2.2 != 0 then some (vle (zeroV, [], (entryI h k i s).2.2)) else
    bif inB (entryI h k i s).1 es.length then bif small65 l.length then fin319 (keyT l h k i es s) s else none else none := by kernel_rfl
end Go.AM.Seat
