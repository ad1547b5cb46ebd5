/- The seat: contracts: labels whose terms the caller may write: the walker with a row of its own. -/
import Derived.Test.YtoeijiackpanoaaDoorAmHot
import Derived.Test.YtoeijiackpanoaaDoorSeLb
set_option linter.unusedVariables false
set_option linter.unusedSimpArgs false
set_option maxRecDepth 100000
namespace Go.AM.Seat
open Go Go.AM Go.Proofs

/-! ### value.Part -/
def Γ22io : Orc := orc [(N44, s44), (N45, s45io), (N47, s47), (N53, s53)]
theorem r22io (l : List Term.D) (v : Value.D) (i : Int) : runIO Γ22io noL2 1 [] F22 (encA P3 (l, v, i)) [] 0 wRow =
    bif partBad l v i then some (rowV zeroV 1, [.arr true Term []]) else
    bif v.1 then some (rowV (madeV l (IntKind.i64.wrap (2 + i), v.2.2.2.2, 0)).1 (madeV l (IntKind.i64.wrap (2 + i), v.2.2.2.2, 0)).2.2, [.arr true Term (madeV l (IntKind.i64.wrap (2 + i), v.2.2.2.2, 0)).2.1]) else
    bif small24 l.length then some (rowV (octV (partR v.2.2.1 i).1) (partR v.2.2.1 i).2, [.arr true Term l]) else none := by kernel_rfl
def s22io : Sp := .io fun a p gs => match a, p, gs with
  | [.one (.sl false (.pair (.int .i64) (.pair (.int .i64) (.int .i64))) none l), .agg [.bool v1, .bool v2, .int .u64 v3, .int .u64 v4, .int .u64 v5, .int .u64 v6, .int .u64 v7, .int .u64 v8, .int .i64 v9], .one (.int .i64 i)], 0, [] =>
    let v : Value.D := (v1, v2, (v3, v4), ((v5, v6), (v7, v8)), v9)
    some (true, rowV (partV l v i).1 (partV l v i).2.2, [.arr true Term (partV l v i).2.1])
  | _, _, _ => none
theorem part_run (l : List Term.D) (v : Value.D) (i : Int) : runIO Γ22io noL2 1 [] F22 (encA P3 (l, v, i)) [] 0 wRow = some (rowV (partV l v i).1 (partV l v i).2.2, [.arr true Term (partV l v i).2.1]) := by
  rw [r22io]
  simp only [partV]
  cases h0 : partBad l v i with
  | true => rfl
  | false =>
    cases v.1 with
    | true => rfl
    | false =>
      unfold partBad at h0
      cases h1 : isV l [false] [v] != 0 with
      | true => rw [h1] at h0; cases h0
      | false =>
        have hz : isV l [false] [v] = 0 := by simpa using h1
        rw [small_of (checkL_small (checkV_zero.1 (isV_one.1 hz).1).1)]; rfl
theorem g22io : GoodS Tryd.prog N22 s22io := by
  refine GoodS.io (callable_of H22 (bd rfl) (by kernel_rfl)) fun a p gs r gs' hw1 hw2 h => ?_
  clear hw1 hw2
  split at h
  · rename_i l v1 v2 v3 v4 v5 v6 v7 v8 v9 i
    cases h
    exact goodIO0 (.cons g44 (.cons g45io (.cons g47 (.cons g53 (.nil _))))) H22 rfl noL2 1 [] (noLoops2 (by kernel_rfl)) (encA P3 (l, (v1, v2, (v3, v4), ((v5, v6), (v7, v8)), v9), i)) rfl (by show 3 ≤ _; decide) wRow
      (part_run l (v1, v2, (v3, v4), ((v5, v6), (v7, v8)), v9) i)
  · cases h
/-! ### the walker, its terms a row of its own -/
def s22h : Sp := .io fun a p gs => match a, p, gs with
  | [.one (.hot 0 none), .agg [.bool v1, .bool v2, .int .u64 v3, .int .u64 v4, .int .u64 v5, .int .u64 v6, .int .u64 v7, .int .u64 v8, .int .i64 v9], .one (.int .i64 i)], 0, [.arr false (.pair (.int .i64) (.pair (.int .i64) (.int .i64))) l] =>
    let v : Value.D := (v1, v2, (v3, v4), ((v5, v6), (v7, v8)), v9)
    some (true, rowV (partV l v i).1 (partV l v i).2.2, [.arr false Term (partV l v i).2.1])
  | _, _, _ => none
theorem g22h : GoodS Tryd.prog N22 s22h := by
  refine GoodS.io (callable_of H22 (bd rfl) (by kernel_rfl)) fun a p gs r gs' hw1 hw2 h => ?_
  clear hw1 hw2
  split at h
  · rename_i v1 v2 v3 v4 v5 v6 v7 v8 v9 i l
    cases h
    have h0 : GoodIO Tryd.prog N22 (encA P3 (l, (v1, v2, (v3, v4), ((v5, v6), (v7, v8)), v9), i)) 0 [] (rowV (partV l (v1, v2, (v3, v4), ((v5, v6), (v7, v8)), v9) i).1 (partV l (v1, v2, (v3, v4), ((v5, v6), (v7, v8)), v9) i).2.2) [.arr true Term (partV l (v1, v2, (v3, v4), ((v5, v6), (v7, v8)), v9) i).2.1] := g22io.2.2 _ 0 [] _ _ rfl
    exact (GoodIO.hot (T := Term) h0 rfl (fun g hg => by rw [List.mem_singleton.1 hg]; rfl)).lax
  · cases h
def obW (n : Nat) (x : WS) : AV := .own (.hot n none :: (enc Value true x.1 ++ [.int .i64 x.2.2]))
def unWh : AV → AV → Option WS
  | .own [.hot 1 none, .bool a, .bool b, .int .u64 c, .int .u64 d, .int .u64 e, .int .u64 f, .int .u64 g, .int .u64 h, .int .i64 t, .int .i64 er], .arr false (.pair (.int .i64) (.pair (.int .i64) (.int .i64))) l => some ((a, b, (c, d), ((e, f), (g, h)), t), l, er)
  | _, _ => none
theorem unWh_eq {a g : AV} {x : WS} (h : unWh a g = some x) : a = obW 1 x ∧ g = .arr false Term x.2.1 := by
  unfold unWh at h
  split at h
  · cases h; exact ⟨rfl, rfl⟩
  · cases h
def unit3 (x : WS) : Option (AV × List AV) := some (.tup [], [obW 1 x, .arr false Term x.2.1])
theorem r353h (l : List Term.D) (v : Value.D) (e i : Int) : runIO (orcL 33 [(N22, s22h)]) noL2 2 [] F353 [.one (.ptr 32 0), .one (.int .i64 i)] [obW 33 (v, l, e), .arr false Term l] 1 [] =
    bif e == 0 then allSame (List.replicate 2 (unit3 (partV l v i))) else unit3 (v, l, e) := by kernel_rfl
def s353h : Sp := .io fun a p gs => match a, p, gs with
  | [.one (.ptr 0 0), .one (.int .i64 i)], 1, [g, k] => (match unWh g k with
    | some x => some (true, .tup [], [obW 1 (stepW x i), .arr false Term (stepW x i).2.1])
    | none => none)
  | _, _, _ => none
theorem g353h : GoodS Tryd.prog N353 s353h := by
  refine GoodS.io (callable_of H353 (bd rfl) (by kernel_rfl)) fun a p gs r gs' hw1 hw2 h => ?_
  clear hw1 hw2
  split at h
  · rename_i i g k
    split at h
    · rename_i x hx
      obtain ⟨rfl, rfl⟩ := unWh_eq hx
      cases h
      obtain ⟨v, l, e⟩ := x
      refine goodIO1 (OrcOk.toL 33 (.cons g22h (.nil _))) H353 rfl noL2 2 [] (noLoops2 (by kernel_rfl)) [.one (.ptr 0 0), .one (.int .i64 i)] [obW 1 (v, l, e), .arr false Term l] 1 (ys := [.one (.ptr 32 0), .one (.int .i64 i)]) (hs := [obW 33 (v, l, e), .arr false Term l]) rfl rfl rfl (Nat.le_succ 1) (by show 2 ≤ _; decide) (Nat.le_refl 2) []
        ((r353h l v e i).trans ?_) (fun x hx => by cases hx; decide)
      unfold stepW
      cases h0 : e == 0 with
      | true => simp only [h0]; exact allSame_rep2 _ 1
      | false => simp only [h0]; rfl
    · cases h
  · cases h
theorem r354h (l : List Term.D) (v : Value.D) (e : Int) : runIO (orcL 23 []) noL2 2 [] F354 [.one (.ptr 23 0)] [obW 24 (v, l, e), .arr false Term l] 0 wRow =
    bif e != 0 then allSame (List.replicate 20 (some (rowV zeroV e, [.arr true Term []]))) else allSame (List.replicate 35 (some (rowV v 0, [.arr false Term l]))) := by kernel_rfl
def s354h : Sp := .io fun a p gs => match a, p, gs with
  | [.one (.ptr 0 0)], 0, [g, k] => (match unWh g k with
    | some x => some (true, rowV (endW x).1 (endW x).2.2, [.arr false Term (endW x).2.1])
    | none => none)
  | _, _, _ => none
theorem g354h : GoodS Tryd.prog N354 s354h := by
  refine GoodS.io (callable_of H354 (bd rfl) (by kernel_rfl)) fun a p gs r gs' hw1 hw2 h => ?_
  clear hw1 hw2
  split at h
  · rename_i g k
    split at h
    · rename_i x hx
      obtain ⟨rfl, rfl⟩ := unWh_eq hx
      cases h
      obtain ⟨v, l, e⟩ := x
      have key : ∀ {r : AV} {gs' : List AV}, runIO (orcL 23 []) noL2 2 [] F354 [.one (.ptr 23 0)] [obW 24 (v, l, e), .arr false Term l] 0 wRow = some (r, gs') → GoodIO Tryd.prog N354 [.one (.ptr 0 0)] 0 [obW 1 (v, l, e), .arr false Term l] r gs' := fun h =>
        goodIO1 (OrcOk.toL 23 (.nil _)) H354 rfl noL2 2 [] (noLoops2 (by kernel_rfl)) [.one (.ptr 0 0)] [obW 1 (v, l, e), .arr false Term l] 0 (ys := [.one (.ptr 23 0)]) (hs := [obW 24 (v, l, e), .arr false Term l]) rfl rfl rfl (Nat.zero_le _) (by show 1 ≤ _; decide) (Nat.le_refl 2) wRow h (fun x hx => by cases hx; decide)
      unfold endW
      cases h0 : e != 0 with
      | true => simp only [h0]; exact (key ((r354h l v e).trans (by rw [h0]; exact allSame_rep2 _ 19))).lax
      | false => simp only [h0]; exact (key ((r354h l v e).trans (by rw [h0]; exact allSame_rep2 _ 34))).lax
    · cases h
  · cases h
theorem r351h (l : List Term.D) (v : Value.D) : runIO (orc [(N19, s19), (N47, s47)]) noL2 0 [] F351 (encA [.v (.sl Term), .v Value] (l, v)) [] 0 [] =
    bif gd51 l v then bif b51 l v then bif small24 l.length then some (.one (.ptr 0 0), [obW 1 (v, l, 1), .arr true Term l]) else none else bif small24 l.length then some (.one (.ptr 0 0), [obW 1 (v, l, checkV l v), .arr true Term l]) else none else none := by kernel_rfl
def s351h : Sp := .io fun a p gs => match a, p, gs with
  | [.one (.sl false (.pair (.int .i64) (.pair (.int .i64) (.int .i64))) none l), g], 0, [] => (match unV g with
    | some v => some (small24 l.length, .one (.ptr 0 0), [obW 1 (startW l v), .arr true Term l])
    | none => none)
  | _, _, _ => none
theorem g351h : GoodS Tryd.prog N351 s351h := by
  refine GoodS.io (callable_of H351 (bd rfl) (by kernel_rfl)) fun a p gs r gs' hw1 hw2 h => ?_
  clear hw1 hw2
  split at h
  · rename_i l g
    split at h
    · rename_i v hv
      obtain rfl := unV_eq hv
      simp only [Option.some.injEq, Prod.mk.injEq] at h
      obtain ⟨hs, rfl, rfl⟩ := h
      refine goodIO0 (.cons g19 (.cons g47 (.nil _))) H351 rfl noL2 0 [] (noLoops2 (by kernel_rfl)) (encA [.v (.sl Term), .v Value] (l, v)) rfl (by show 2 ≤ _; decide) [] ((r351h l v).trans ?_)
      rw [gd51_true, hs]
      unfold startW startE
      cases b51 l v <;> rfl
    · cases h
  · cases h
def Γ385h : Orc := orcL 39 [(N311, s311), (N353, s353h)]
theorem Γ385hok : OrcOk Tryd.prog Γ385h := OrcOk.toL 39 (.cons g311 (.cons g353h (.nil _)))
abbrev live385h : List (Nat × Dir) := [(0, .keep), (28, .keep), (29, .keep), (30, .keep), (38, .keep), (39, .keep)]
def vs385h (l : List Int) (n i : Int) (x : WS) : List AV := [.one (.ptr 38 0), .one (.sl true I none l), .one (.int .i64 n), .one (.int .i64 i), .gho (obW 39 x).ov, .gho (AV.arr false Term x.2.1).ov]
noncomputable abbrev lp385h (Λ : Lam (AV × List AV)) (K : AE → List AV → Option (AV × List AV)) (fuel : Nat) (vs : List AV) : Option (AV × List AV) := loopN (aexec tb Γ385h Λ ⟨38, 2, [(0, live385h)]⟩ (loopK F385 0).2 0) 38 2 live385h K fuel vs
theorem step385h (l : List Int) (n i : Int) (x : WS) (Λ : Lam (AV × List AV)) (fuel : Nat) (K : AE → List AV → Option (AV × List AV)) : lp385h Λ K (fuel + 1) (vs385h l n i x) =
    bif decide (i < n) then bif inB i l.length then lp385h Λ K fuel (vs385h l n (IntKind.i64.wrap (i + 1)) (stepW x (iAt l i))) else none else K (.exit 0) (vs385h l n i x) := by kernel_rfl
def unW39 : OV → OV → Option WS
  | .own [.hot 39 none, .bool a, .bool b, .int .u64 c, .int .u64 d, .int .u64 e, .int .u64 f, .int .u64 g, .int .u64 h, .int .i64 t, .int .i64 er], .arr false (.pair (.int .i64) (.pair (.int .i64) (.int .i64))) l => some ((a, b, (c, d), ((e, f), (g, h)), t), l, er)
  | _, _ => none
theorem unW39_eq {a g : OV} {x : WS} (h : unW39 a g = some x) : a = (obW 39 x).ov ∧ g = (AV.arr false Term x.2.1).ov := by
  unfold unW39 at h
  split at h
  · cases h; exact ⟨rfl, rfl⟩
  · cases h
def Λ385h : Lam (AV × List AV) := fun cur vs K =>
  match cur, vs with
  | 0, [.one (.ptr 38 0), .one (.sl true (.int .i64) none l), .one (.int .i64 n), .one (.int .i64 0), .gho o, .gho q] =>
    (match unW39 o q with
    | some x => bif decide (n = l.length) && decide (n ≤ 9223372036854775807) then K (.exit 0) (vs385h l n n (walkL x l)) else none
    | none => none)
  | _, _ => none
theorem loop385h : LoopP tb Γ385h Λ385h ⟨38, 2, [(0, live385h)]⟩ (loopK F385 0) := by
  intro vs K out e
  have hcur : (loopK F385 0).1 = 0 := by kernel_rfl
  rw [hcur] at e ⊢
  unfold Λ385h at e
  split at e
  · rename_i l n o q _
    split at e
    · rename_i x hx
      cases hc : (decide (n = l.length) && decide (n ≤ 9223372036854775807)) with
      | false => rw [hc] at e; cases e
      | true =>
        rw [hc] at e
        simp only [cond_true] at e
        simp only [Bool.and_eq_true, decide_eq_true_eq] at hc
        obtain ⟨rfl, hmax⟩ := hc
        obtain ⟨rfl, rfl⟩ := unW39_eq hx
        refine upLoopR (α := WS) (n := l.length) (F := fun fuel x i => lp385h Λ385h K fuel (vs385h l l.length i x)) (G := fun j x => K (.exit 0) (vs385h l l.length l.length (walkL x (l.drop j))))
          (fun fuel x => ?_) (fun x j hj => ?_) l.length 0 x out (by omega) e
        · simp only [step385h, nlt_dec, cond_false, List.drop_length, walkL]
        · left
          refine ⟨stepW x (iAt l j), fun fuel => ?_, by rw [walk_drop hj]⟩
          simp only [step385h, lt_dec hj, inB_lt hj, cond_true]
          rw [wrap64 (by omega) (by omega)]; rfl
    · cases e
  · cases e
theorem r385h (h a b : Int) (x : WS) : runIO Γ385h Λ385h 2 [(0, live385h)] F385 [.one (.ptr 38 0), .one (.int .i64 h), .one (.int .u64 a), .one (.int .u64 b)] [obW 39 x, .arr false Term x.2.1] 1 [] =
    bif x.2.2 == 0 then bif lenB (pathI h a b).1 then unit3 (walkL (x.1, x.2.1, (pathI h a b).2) (pathI h a b).1) else none else bif lenB (pathI h a b).1 then unit3 (walkL x (pathI h a b).1) else none := by kernel_rfl
def s385h : Sp := .io fun a p gs => match a, p, gs with
  | [.one (.ptr 0 0), .one (.int .i64 h), .one (.int .u64 a), .one (.int .u64 b)], 1, [g, k] => (match unWh g k with
    | some x => some (true, .tup [], [obW 1 (pathW x h a b), .arr false Term (pathW x h a b).2.1])
    | none => none)
  | _, _, _ => none
theorem g385h : GoodS Tryd.prog N385 s385h := by
  refine GoodS.io (callable_of H385 (bd rfl) (by kernel_rfl)) fun a p gs r gs' hw1 hw2 h => ?_
  clear hw1 hw2
  split at h
  · rename_i h' a b g k
    split at h
    · rename_i x hx
      obtain ⟨rfl, rfl⟩ := unWh_eq hx
      cases h
      refine goodIO1 Γ385hok H385 rfl Λ385h 2 [(0, live385h)] (oneLoop2 (p0 := loopK F385 0) (by kernel_rfl) loop385h) [.one (.ptr 0 0), .one (.int .i64 h'), .one (.int .u64 a), .one (.int .u64 b)] [obW 1 x, .arr false Term x.2.1] 1 (ys := [.one (.ptr 38 0), .one (.int .i64 h'), .one (.int .u64 a), .one (.int .u64 b)]) (hs := [obW 39 x, .arr false Term x.2.1]) rfl rfl rfl (Nat.le_succ 1) (by show 4 ≤ _; decide) (Nat.le_refl 2) [] ((r385h h' a b x).trans ?_) (fun x hx => by cases hx; decide)
      rw [lenB_path]
      unfold pathW
      cases x.2.2 == 0 <;> rfl
    · cases h
  · cases h
def Γ352h : Orc := orcL 24 [(N385, s385h), (N353, s353h)]
theorem r352h (x : WS) (h : Int) (s : Subset.D) : runIO Γ352h noL2 2 [] F352 [.one (.ptr 23 0), .one (.int .i64 h), .agg [.int .u64 s.1, .int .u64 s.2]] [obW 24 x, .arr false Term x.2.1] 1 [] =
    bif s.2 != 0 then unit3 (pathW (stepW (pathW x h 1 s.1) 2) h s.1 s.2) else unit3 (stepW (pathW x h 1 s.1) 2) := by kernel_rfl
def s352h : Sp := .io fun a p gs => match a, p, gs with
  | [.one (.ptr 0 0), .one (.int .i64 h), .agg [.int .u64 i, .int .u64 j]], 1, [g, k] => (match unWh g k with
    | some x => some (true, .tup [], [obW 1 (labelW x h (i, j)), .arr false Term (labelW x h (i, j)).2.1])
    | none => none)
  | _, _, _ => none
theorem g352h : GoodS Tryd.prog N352 s352h := by
  refine GoodS.io (callable_of H352 (bd rfl) (by kernel_rfl)) fun a p gs r gs' hw1 hw2 h => ?_
  clear hw1 hw2
  split at h
  · rename_i h' i j g k
    split at h
    · rename_i x hx
      obtain ⟨rfl, rfl⟩ := unWh_eq hx
      cases h
      refine goodIO1 (OrcOk.toL 24 (.cons g385h (.cons g353h (.nil _)))) H352 rfl noL2 2 [] (noLoops2 (by kernel_rfl)) [.one (.ptr 0 0), .one (.int .i64 h'), .agg [.int .u64 i, .int .u64 j]] [obW 1 x, .arr false Term x.2.1] 1 (ys := [.one (.ptr 23 0), .one (.int .i64 h'), .agg [.int .u64 i, .int .u64 j]]) (hs := [obW 24 x, .arr false Term x.2.1]) rfl rfl rfl (Nat.le_succ 1) (by show 3 ≤ _; decide) (Nat.le_refl 2) [] ((r352h x h' (i, j)).trans ?_) (fun x hx => by cases hx; decide)
      unfold labelW
      cases (i, j).2 != 0 <;> rfl
    · cases h
  · cases h

/-! ### label.Label -/
def Γ347h : Orc := orcL 36 [(N351, s351h), (N341, s341), (N352, s352h), (N354, s354h)]
theorem r347h (l : List Term.D) (h : Int) (v : Value.D) (s : Subset.D) : runIO Γ347h noL2 2 [] F347 (encA L4 (l, h, v, s)) [] 0 wRow =
    bif small24 l.length then bif noLab l h v s then some (rowV zeroV 1, [.arr true Term []]) else some (rowV (endW (labelW (startW l v) h s)).1 (endW (labelW (startW l v) h s)).2.2, [.arr true Term (endW (labelW (startW l v) h s)).2.1]) else none := by kernel_rfl
def s347io : Sp := .io fun a p gs => match a, p, gs with
  | [.one (.sl false (.pair (.int .i64) (.pair (.int .i64) (.int .i64))) none l), .one (.int .i64 h), g, .agg [.int .u64 i, .int .u64 j]], 0, [] => (match unV g with
    | some v => some (small24 l.length, rowV (labelV l h v (i, j)).1 (labelV l h v (i, j)).2.2, [.arr true Term (labelV l h v (i, j)).2.1])
    | none => none)
  | _, _, _ => none
theorem g347io : GoodS Tryd.prog N347 s347io := by
  refine GoodS.io (callable_of H347 (bd rfl) (by kernel_rfl)) fun a p gs r gs' hw1 hw2 h => ?_
  clear hw1 hw2
  split at h
  · rename_i l h' g i j
    split at h
    · rename_i v hv
      obtain rfl := unV_eq hv
      simp only [Option.some.injEq, Prod.mk.injEq] at h
      obtain ⟨hs, rfl, rfl⟩ := h
      refine goodIO0 (OrcOk.toL 36 (.cons g351h (.cons g341 (.cons g352h (.cons g354h (.nil _)))))) H347 rfl noL2 2 [] (noLoops2 (by kernel_rfl)) (encA L4 (l, h', v, (i, j))) rfl (by show 4 ≤ _; decide) wRow ((r347h l h' v (i, j)).trans ?_) (fun x hx => by cases hx; decide)
      rw [hs]
      unfold labelV
      cases noLab l h' v (i, j) <;> rfl
    · cases h
  · cases h
end Go.AM.Seat
