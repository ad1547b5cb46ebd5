/- The seat: contracts: diff.cutter.cut. -/
import Derived.Test.YtkalaofppiifcaaSeCw2
import Derived.Test.YtkalaofppiifcaaAmNil
import Derived.Test.YtkalaofppiifcaaAmHot
set_option linter.unusedVariables false
set_option linter.unusedSimpArgs false
set_option maxRecDepth 100000
namespace Go.AM.Seat
open Go Go.AM Go.Proofs
/-- What it takes: no deeper than f, and room. -/
def cutB (a : Int) (l : List Int) (f : Nat) (top : Int) (out : List Subset.D) : Bool := cutOk a l f top && decide (out.length + 2 ^ f ≤ 2199023255552)
def s391 (f : Nat) : Sp := .io fun x p gs => match x, p, gs with
  | [.one (.ptr 0 0), .one (.int .u64 top)], 1, [.own [.int .i64 a, .sl false (.int .u64) none l, .hot 1 none], .arr false (.pair (.int .u64) (.int .u64)) out] =>
    some (cutB a l f top out, .one (.int .i64 (cutR a l f top out).2), [.own [.int .i64 a, .sl false U none l, .hot 1 none], .arr true Subset (cutR a l f top out).1])
  | _, _, _ => none
def Γ391 (f : Nat) : Orc := orcLf 67 [(N415, s415), (N416, s416), (N391, s391 f)]
abbrev live391 : List (Nat × Dir) := [(0, .keep), (4, .keep), (5, .keep), (38, .keep), (41, .keep), (66, .keep), (67, .keep)]
def vs391 (a : Int) (l : List Int) (e d : Int) (out : List Subset.D) (j : Int) : List AV := [.one (.ptr 66 0), .one (.int .i64 e), .one (.int .u64 d), .one .junk, .one (.int .i64 j), .gho (AV.own [.int .i64 a, .sl false U none l, .hot 67 none]).ov, .gho (AV.arr true Subset out).ov]
def vs391b (a : Int) (l : List Int) (e d : Int) (out : List Subset.D) (j : Int) : List AV := [.one (.ptr 66 0), .one (.int .i64 e), .one (.int .u64 d), .arr true Subset out, .one (.int .i64 j), .gho (AV.own [.int .i64 a, .sl false U none l, .hot 38 none]).ov, .gho OV.none]
noncomputable abbrev lo391 (f : Nat) (Λ : Lam (AV × List AV)) (K : AE → List AV → Option (AV × List AV)) (fuel : Nat) (vs : List AV) : Option (AV × List AV) := loopN (aexec tb (Γ391 f) Λ ⟨66, 2, [(0, live391)]⟩ (loop1 F391).2 0) 66 2 live391 K fuel vs
theorem step391 (f : Nat) (a : Int) (l : List Int) (e d : Int) (out : List Subset.D) (j : Int) (Λ : Lam (AV × List AV)) (K : AE → List AV → Option (AV × List AV)) (fuel : Nat) : lo391 f Λ K (fuel + 1) (vs391 a l e d out j) =
    bif decide (j < 2) then bif (childI a d j).2 == 4 then K (.exit 0) (vs391 a l e d out j) else bif (childI a d j).2 != 0 then K .ret (vs391 a l (childI a d j).2 d out j) else
      bif cutB a l f (childI a d j).1 out then bif (cutR a l f (childI a d j).1 out).2 != 0 then K .ret (vs391 a l (cutR a l f (childI a d j).1 out).2 d (cutR a l f (childI a d j).1 out).1 j) else
        lo391 f Λ K fuel (vs391 a l e d (cutR a l f (childI a d j).1 out).1 (IntKind.i64.wrap (j + 1))) else none
    else K (.exit 0) (vs391 a l e d out j) := by kernel_rfl
theorem step391b (f : Nat) (a : Int) (l : List Int) (e d : Int) (out : List Subset.D) (j : Int) (Λ : Lam (AV × List AV)) (K : AE → List AV → Option (AV × List AV)) (fuel : Nat) : lo391 f Λ K (fuel + 1) (vs391b a l e d out j) =
    bif decide (j < 2) then bif (childI a d j).2 == 4 then K (.exit 0) (vs391b a l e d out j) else bif (childI a d j).2 != 0 then K .ret (vs391b a l (childI a d j).2 d out j) else
      bif cutB a l f (childI a d j).1 out then bif (cutR a l f (childI a d j).1 out).2 != 0 then K .ret (vs391 a l (cutR a l f (childI a d j).1 out).2 d (cutR a l f (childI a d j).1 out).1 j) else
        lo391 f Λ K fuel (vs391 a l e d (cutR a l f (childI a d j).1 out).1 (IntKind.i64.wrap (j + 1))) else none
    else K (.exit 0) (vs391b a l e d out j) := by kernel_rfl
def okL (a : Int) (l : List Int) (f : Nat) (d : Int) (out : List Subset.D) : Bool := (okC (cutOk a l f) a d 0 && okC (cutOk a l f) a d 1) && decide (out.length + 2 ^ f + 2 ^ f ≤ 2199023255553)
/-- Both children (X0, E0: ahead of the first one; X, E: behind it). -/
def cutV {ρ : Type} (R : Int → List Subset.D → List Subset.D × Int) (a d : Int) (out : List Subset.D) (X0 E0 X E : Int → List Subset.D → Int → ρ) : ρ :=
  bif (childI a d 0).2 == 4 then X0 0 out 0 else bif (childI a d 0).2 != 0 then E0 (childI a d 0).2 out 0 else
  bif (R (childI a d 0).1 out).2 != 0 then E (R (childI a d 0).1 out).2 (R (childI a d 0).1 out).1 0 else
  bif (childI a d 1).2 == 4 then X 0 (R (childI a d 0).1 out).1 1 else bif (childI a d 1).2 != 0 then E (childI a d 1).2 (R (childI a d 0).1 out).1 1 else
  bif (R (childI a d 1).1 (R (childI a d 0).1 out).1).2 != 0 then E (R (childI a d 1).1 (R (childI a d 0).1 out).1).2 (R (childI a d 1).1 (R (childI a d 0).1 out).1).1 1 else X 0 (R (childI a d 1).1 (R (childI a d 0).1 out).1).1 2
def Λ391 (f : Nat) : Lam (AV × List AV) := fun _ vs K =>
  match vs with
  | [.one (.ptr 66 0), .one (.int .i64 0), .one (.int .u64 d), .one .junk, .one (.int .i64 0), .gho (.own [.int .i64 a, .sl false (.int .u64) none l, .hot 67 none]), .gho (.arr true (.pair (.int .u64) (.int .u64)) out)] =>
    bif okL a l f d out then cutV (cutR a l f) a d out (fun e o j => K (.exit 0) (vs391 a l e d o j)) (fun e o j => K .ret (vs391 a l e d o j)) (fun e o j => K (.exit 0) (vs391 a l e d o j)) (fun e o j => K .ret (vs391 a l e d o j)) else none
  | [.one (.ptr 66 0), .one (.int .i64 0), .one (.int .u64 d), .arr true (.pair (.int .u64) (.int .u64)) out, .one (.int .i64 0), .gho (.own [.int .i64 a, .sl false (.int .u64) none l, .hot 38 none]), .gho .none] =>
    bif okL a l f d out then cutV (cutR a l f) a d out (fun e o j => K (.exit 0) (vs391b a l e d o j)) (fun e o j => K .ret (vs391b a l e d o j)) (fun e o j => K (.exit 0) (vs391 a l e d o j)) (fun e o j => K .ret (vs391 a l e d o j)) else none
  | _ => none
theorem go391 {ρ : Type} {a : Int} {l : List Int} {f : Nat} {d : Int} {out : List Subset.D} (hok : okL a l f d out = true) {F0 F : Nat → List Subset.D → Int → Option ρ} {X0 E0 X E : Int → List Subset.D → Int → Option ρ}
    (step0 : ∀ fuel o j, F0 (fuel + 1) o j = bif decide (j < 2) then bif (childI a d j).2 == 4 then X0 0 o j else bif (childI a d j).2 != 0 then E0 (childI a d j).2 o j else
      bif cutB a l f (childI a d j).1 o then bif (cutR a l f (childI a d j).1 o).2 != 0 then E (cutR a l f (childI a d j).1 o).2 (cutR a l f (childI a d j).1 o).1 j else F fuel (cutR a l f (childI a d j).1 o).1 (IntKind.i64.wrap (j + 1)) else none
      else X0 0 o j)
    (step : ∀ fuel o j, F (fuel + 1) o j = bif decide (j < 2) then bif (childI a d j).2 == 4 then X 0 o j else bif (childI a d j).2 != 0 then E (childI a d j).2 o j else
      bif cutB a l f (childI a d j).1 o then bif (cutR a l f (childI a d j).1 o).2 != 0 then E (cutR a l f (childI a d j).1 o).2 (cutR a l f (childI a d j).1 o).1 j else F fuel (cutR a l f (childI a d j).1 o).1 (IntKind.i64.wrap (j + 1)) else none
      else X 0 o j) :
    F0 3 out 0 = cutV (cutR a l f) a d out X0 E0 X E := by
  unfold okL at hok
  simp only [Bool.and_eq_true, decide_eq_true_eq] at hok
  obtain ⟨⟨h0, h1⟩, hl⟩ := hok
  have d0 : decide ((0 : Int) < 2) = true := rfl
  have d1 : decide ((1 : Int) < 2) = true := rfl
  have d2 : decide ((2 : Int) < 2) = false := rfl
  have w0 : IntKind.i64.wrap (0 + 1) = 1 := by decide
  have w1 : IntKind.i64.wrap (1 + 1) = 2 := by decide
  have hlen := cutR_len (a := a) (l := l) f (childI a d 0).1 out
  have hp := Nat.two_pow_pos f
  unfold cutV
  rw [step0, d0, w0]
  cases c0 : (childI a d 0).2 == 4 with
  | true => rfl
  | false =>
    cases c1 : (childI a d 0).2 != 0 with
    | true => rfl
    | false =>
      have b0 : cutB a l f (childI a d 0).1 out = true := by
        unfold okC at h0
        rw [c1] at h0
        have h0 : cutOk a l f (childI a d 0).1 = true := h0
        unfold cutB
        rw [h0, decide_eq_true (by omega)]; rfl
      rw [b0]
      cases c2 : (cutR a l f (childI a d 0).1 out).2 != 0 with
      | true => rfl
      | false =>
        simp only [cond_true, cond_false]
        rw [step, d1, w1]
        cases c3 : (childI a d 1).2 == 4 with
        | true => rfl
        | false =>
          cases c4 : (childI a d 1).2 != 0 with
          | true => rfl
          | false =>
            have b1 : cutB a l f (childI a d 1).1 (cutR a l f (childI a d 0).1 out).1 = true := by
              unfold okC at h1
              rw [c4] at h1
              have h1 : cutOk a l f (childI a d 1).1 = true := h1
              unfold cutB
              rw [h1, decide_eq_true (by omega)]; rfl
            rw [b1]
            cases c5 : (cutR a l f (childI a d 1).1 (cutR a l f (childI a d 0).1 out).1).2 != 0 with
            | true => rfl
            | false =>
              simp only [cond_true, cond_false]
              rw [step, d2]; rfl
theorem loop391 (f : Nat) : LoopP tb (Γ391 f) (Λ391 f) ⟨66, 2, [(0, live391)]⟩ (loop1 F391) := by
  intro vs K out h
  have hcur : (loop1 F391).1 = 0 := by kernel_rfl
  rw [hcur] at h ⊢
  unfold Λ391 at h
  split at h
  · rename_i d a l o
    cases hc : okL a l f d o with
    | false => rw [hc] at h; cases h
    | true =>
      rw [hc] at h
      refine ⟨3, Eq.trans ?_ h⟩
      exact go391 hc (F0 := fun fuel o j => lo391 f (Λ391 f) K fuel (vs391 a l 0 d o j)) (F := fun fuel o j => lo391 f (Λ391 f) K fuel (vs391 a l 0 d o j)) (X0 := fun e o j => K (.exit 0) (vs391 a l e d o j)) (E0 := fun e o j => K .ret (vs391 a l e d o j)) (X := fun e o j => K (.exit 0) (vs391 a l e d o j)) (E := fun e o j => K .ret (vs391 a l e d o j))
        (fun fuel o j => step391 f a l 0 d o j (Λ391 f) K fuel) (fun fuel o j => step391 f a l 0 d o j (Λ391 f) K fuel)
  · rename_i d o a l
    cases hc : okL a l f d o with
    | false => rw [hc] at h; cases h
    | true =>
      rw [hc] at h
      refine ⟨3, Eq.trans ?_ h⟩
      exact go391 hc (F0 := fun fuel o j => lo391 f (Λ391 f) K fuel (vs391b a l 0 d o j)) (F := fun fuel o j => lo391 f (Λ391 f) K fuel (vs391 a l 0 d o j)) (X0 := fun e o j => K (.exit 0) (vs391b a l e d o j)) (E0 := fun e o j => K .ret (vs391b a l e d o j)) (X := fun e o j => K (.exit 0) (vs391 a l e d o j)) (E := fun e o j => K .ret (vs391 a l e d o j))
        (fun fuel o j => step391b f a l 0 d o j (Λ391 f) K fuel) (fun fuel o j => step391 f a l 0 d o j (Λ391 f) K fuel)
  · cases h
def rt391 (a : Int) (l : List Int) (e : Int) (o : List Subset.D) (_ : Int) : Option (AV × List AV) := some (.one (.int .i64 e), [.own [.int .i64 a, .sl false U none l, .hot 1 none], .arr true Subset o])
def LL391 (a : Int) (l : List Int) (f : Nat) (d : Int) (o : List Subset.D) : Option (AV × List AV) := bif okL a l f d o then cutV (cutR a l f) a d o (rt391 a l) (rt391 a l) (rt391 a l) (rt391 a l) else none
theorem r391 (f : Nat) (a : Int) (l : List Int) (top : Int) (out : List Subset.D) : runIO (Γ391 f) (Λ391 f) 2 [(0, live391)] F391 [.one (.ptr 66 0), .one (.int .u64 top)] [.own [.int .i64 a, .sl false U none l, .hot 67 none], .arr true Subset out] 1 [] =
    bif (downI a l top).2 != 0 then rt391 a l (downI a l top).2 out 0 else bif (downI a l top).1 != top then
      (bif decide ((out.length + [(top, (downI a l top).1)].length) * 16 ≤ 140737488355328) then LL391 a l f (downI a l top).1 (out ++ [(top, (downI a l top).1)]) else none) else LL391 a l f (downI a l top).1 out := by kernel_rfl
theorem LL391_ok {a : Int} {l : List Int} {f : Nat} {d : Int} {o : List Subset.D} (hok : okL a l f d o = true) : LL391 a l f d o = rt391 a l (cutK (cutR a l f) a d o).2 (cutK (cutR a l f) a d o).1 0 := by
  unfold LL391 cutV cutK rt391
  rw [hok]
  simp only [cond_true]
  generalize cutR a l f (childI a d 0).1 o = r0
  generalize cutR a l f (childI a d 1).1 r0.1 = r1
  generalize childI a d 0 = c0
  generalize childI a d 1 = c1
  cases h0 : c0.2 == 4 with
  | true => rfl
  | false =>
    cases c0.2 != 0 with
    | true => rfl
    | false =>
      cases r0.2 != 0 with
      | true => rfl
      | false =>
        cases c1.2 == 4 with
        | true => rfl
        | false =>
          cases c1.2 != 0 with
          | true => rfl
          | false =>
            simp only [cond_false]
            cases h1 : r1.2 != 0 with
            | true => rfl
            | false =>
              have : r1.2 = 0 := by simpa using h1
              rw [this]; rfl
theorem run391 (f : Nat) (a : Int) (l : List Int) (top : Int) (out : List Subset.D) (hb : cutB a l (f + 1) top out = true) : runIO (Γ391 f) (Λ391 f) 2 [(0, live391)] F391 [.one (.ptr 66 0), .one (.int .u64 top)] [.own [.int .i64 a, .sl false U none l, .hot 67 none], .arr true Subset out] 1 [] =
    some (.one (.int .i64 (cutR a l (f + 1) top out).2), [.own [.int .i64 a, .sl false U none l, .hot 1 none], .arr true Subset (cutR a l (f + 1) top out).1]) := by
  rw [r391]
  unfold cutB at hb
  rw [Bool.and_eq_true, decide_eq_true_eq, Nat.pow_succ] at hb
  obtain ⟨h1, h2⟩ := hb
  have hp := Nat.two_pow_pos f
  rw [cutR]
  rw [cutOk] at h1
  cases hd : (downI a l top).2 != 0 with
  | true => rfl
  | false =>
    rw [hd] at h1
    have h1 : (okC (cutOk a l f) a (downI a l top).1 0 && okC (cutOk a l f) a (downI a l top).1 1) = true := h1
    unfold cutO
    cases ht : (downI a l top).1 != top with
    | true =>
      simp only [cond_true, cond_false]
      rw [decide_eq_true (show (out.length + [(top, (downI a l top).1)].length) * 16 ≤ 140737488355328 by rw [List.length_singleton]; omega)]
      simp only [cond_true]
      rw [LL391_ok]
      · rfl
      · unfold okL
        rw [h1, List.length_append, List.length_singleton, decide_eq_true (show out.length + 1 + 2 ^ f + 2 ^ f ≤ 2199023255553 by omega)]; rfl
    | false =>
      simp only [cond_false, List.append_nil]
      rw [LL391_ok]
      · rfl
      · unfold okL
        rw [h1, decide_eq_true (by omega)]; rfl
theorem Γ391ok {f : Nat} (h : GoodS Try.prog N391 (s391 f)) : OrcOk Try.prog (Γ391 f) := OrcOk.toLf 67 (.cons g415 (.cons g416 (.cons h (.nil _))))
theorem io391 {f : Nat} (h : GoodS Try.prog N391 (s391 f)) (a : Int) (l : List Int) (top : Int) (out : List Subset.D) (hb : cutB a l (f + 1) top out = true) :
    GoodIO Try.prog N391 [.one (.ptr 0 0), .one (.int .u64 top)] 1 [.own [.int .i64 a, .sl false U none l, .hot 1 none], .arr true Subset out] (.one (.int .i64 (cutR a l (f + 1) top out).2)) [.own [.int .i64 a, .sl false U none l, .hot 1 none], .arr true Subset (cutR a l (f + 1) top out).1] :=
  goodIO1 (Γ391ok h) H391 rfl (Λ391 f) 2 [(0, live391)] (fun p hp => by
      have e : loopsOf 0 (body F391) = [loop1 F391] := by kernel_rfl
      rw [e] at hp
      rw [List.mem_singleton.1 hp]; exact loop391 f) [.one (.ptr 0 0), .one (.int .u64 top)] [.own [.int .i64 a, .sl false U none l, .hot 1 none], .arr true Subset out] 1
    (ys := [.one (.ptr 66 0), .one (.int .u64 top)]) (hs := [.own [.int .i64 a, .sl false U none l, .hot 67 none], .arr true Subset out]) rfl rfl rfl (Nat.le_succ 1) (by show 2 ≤ _; decide) (Nat.le_refl 2) [] (run391 f a l top out hb) (fun x hx => by cases hx; decide)
theorem g391 : ∀ f, GoodS Try.prog N391 (s391 f) := by
  intro f
  induction f with
  | zero =>
    refine GoodS.io (callable_of H391 (bd rfl) (by kernel_rfl)) fun a p gs r gs' hw1 hw2 h => ?_
    unfold s391 at h
    split at h
    · cases h
    · cases h
  | succ f ih =>
    refine GoodS.io (callable_of H391 (bd rfl) (by kernel_rfl)) fun a p gs r gs' hw1 hw2 h => ?_
    clear hw1 hw2
    unfold s391 at h
    split at h
    · rename_i top a l out
      simp only [Option.some.injEq, Prod.mk.injEq] at h
      obtain ⟨hb, rfl, rfl⟩ := h
      exact (io391 ih a l top out hb).tightIn (gs := [.own [.int .i64 a, .sl false U none l, .hot 1 none], .arr false Subset out]) fun fr t xs hm => by
        rcases List.mem_cons.1 hm with e | hm
        · cases e
        · rcases List.mem_cons.1 hm with e | hm
          · cases e; exact .inl rfl
          · cases hm
    · cases h
end Go.AM.Seat
