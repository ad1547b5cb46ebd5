/- The seat: contracts of the definition's functions: ways, pairs. -/
import Derived.Test.YtoeijiackpanoaaSeM1
set_option linter.unusedVariables false
set_option maxRecDepth 100000
namespace Go.AM.Seat
open Go Go.AM Go.Proofs

/-! ### r01.Path -/
abbrev live338 : List (Nat × Dir) := [(1, .keep), (8, .arr I), (26, .keep), (27, .keep), (28, .keep)]
def vs338 (a : Int) (l out : List Int) (n i : Int) : List AV := [.one (.int .u64 a), .arr true I out, .one (.sl true U none l), .one (.int .i64 n), .one (.int .i64 i)]
def Γ338 : Orc := orc [(N374, s374), (N337, s337), (N370, s370)]
noncomputable abbrev lp338 (Λ : Lam AV) (K : AE → List AV → Option AV) (fuel : Nat) (vs : List AV) : Option AV := loopN (aexec tb Γ338 Λ ⟨48, 0, [(0, live338)]⟩ (loopK F338 0).2 0) 48 0 live338 K fuel vs

def bitO (x : Int) : Int := IntKind.i64.wrap (x.tmod 2)
def selB (a x : Int) : Bool := bif decide (x > a) then isI a x else false
def accL (a : Int) : List Int → List Int → List Int
  | [], out => out
  | x :: r, out => accL a r (bif selB a x then out ++ [bitO x] else out)
theorem step338 (a : Int) (l out : List Int) (n i : Int) (Λ : Lam AV) (fuel : Nat) (K : AE → List AV → Option AV) : lp338 Λ K (fuel + 1) (vs338 a l out n i) =
    bif decide (i < n) then bif inB i l.length then bif decide (1 ≤ iAt l i) || !boolBeq (decide (iAt l i > a)) true then
      bif selB a (iAt l i) then bif decide ((out.length + 1) * 8 ≤ 140737488355328) then lp338 Λ K fuel (vs338 a l (out ++ [bitO (iAt l i)]) n (IntKind.i64.wrap (i + 1))) else none
      else lp338 Λ K fuel (vs338 a l out n (IntKind.i64.wrap (i + 1)))
    else none else none else K (.exit 0) (vs338 a l out n i) := by kernel_rfl
def Λ338 : Lam AV := fun cur vs K =>
  match cur, vs with
  | 0, [.one (.int .u64 a), .arr true (.int .i64) [], .one (.sl true (.int .u64) none l), .one (.int .i64 n), .one (.int .i64 0)] =>
    bif decide (n = l.length) && decide (n ≤ 64) && decide (0 ≤ a) then K (.exit 0) (vs338 a l (accL a l []) n n) else none
  | _, _ => none
theorem sel_guard {a x : Int} (h : 0 ≤ a) : (decide (1 ≤ x) || !boolBeq (decide (x > a)) true) = true := by
  cases e : decide (x > a) with
  | false => cases decide (1 ≤ x) <;> rfl
  | true => have := of_decide_eq_true e; rw [decide_eq_true (show 1 ≤ x by omega)]; rfl
theorem iAt_drop {l : List Int} {j : Nat} (h : j < l.length) : l.drop j = iAt l j :: l.drop (j + 1) := by
  rw [List.drop_eq_getElem_cons h]
  simp [iAt, h]
theorem len8 {n : Nat} (h : n ≤ 5000) : decide ((n + 1) * 8 ≤ 140737488355328) = true := decide_eq_true (by omega)
theorem loop338 : LoopP tb Γ338 Λ338 ⟨48, 0, [(0, live338)]⟩ (loopK F338 0) := by
  intro vs K out e
  have hcur : (loopK F338 0).1 = 0 := by kernel_rfl
  rw [hcur] at e ⊢
  unfold Λ338 at e
  split at e
  · rename_i a l n _
    cases hc : (decide (n = l.length) && decide (n ≤ 64) && decide (0 ≤ a)) with
    | false => rw [hc] at e; cases e
    | true =>
      rw [hc] at e
      simp only [cond_true] at e
      simp only [Bool.and_eq_true, decide_eq_true_eq] at hc
      obtain ⟨⟨rfl, hn⟩, ha⟩ := hc
      refine upLoopI (α := List Int) (n := l.length) (F := fun fuel o i => lp338 Λ338 K fuel (vs338 a l o l.length i))
        (G := fun j o => K (.exit 0) (vs338 a l (accL a (l.drop j) o) l.length l.length)) (Inv := fun j o => o.length ≤ j) (fun fuel o => ?_) (fun o j hj hi => ?_) l.length 0 [] out (by omega) (Nat.le_refl 0) e
      · simp only [step338, nlt_dec, cond_false, List.drop_length, accL]
      · left
        refine ⟨bif selB a (iAt l j) then o ++ [bitO (iAt l j)] else o, by cases selB a (iAt l j) <;> simp <;> omega, fun fuel => ?_, ?_⟩
        · simp only [step338, lt_dec hj, inB_lt hj, cond_true, sel_guard ha, len8 (show o.length ≤ 5000 by omega)]
          rw [wrap64 (n := (j : Int) + 1) (by omega) (by omega)]
          cases selB a (iAt l j) <;> rfl
        · rw [iAt_drop hj, accL]
  · cases e
theorem r338 (h a b : Int) : run Γ338 Λ338 [(0, live338)] F338 (encA [.v I, .v U, .v U] (h, a, b)) [.sl true I] =
    bif (bif !mayN h a then true else !mayN h b) then some (rli [] 1) else bif decide (1 ≤ b) then bif !isI a b then some (rli [] 4) else bif decide (1 ≤ b) then
      bif decide (((chainN b.toNat).length : Int) = (chainN b.toNat).length) && decide (((chainN b.toNat).length : Int) ≤ 64) && decide (0 ≤ a) then some (rli (accL a (chainN b.toNat) []) 0) else none else none else none := by kernel_rfl

/-! ### r14.Pairs -/
abbrev lvB : List (Nat × Dir) := [(0, .keep), (1, .keep), (10, .keep), (11, .arr Subset)]
abbrev live334 : List (Nat × List (Nat × Dir)) := [(0, lvB ++ [(43, .keep), (44, .keep), (45, .keep)]), (2, lvB ++ [(60, .keep), (61, .keep), (62, .keep)]), (4, lvB ++ [(14, .keep), (15, .keep), (60, .keep), (61, .keep), (62, .keep), (70, .keep), (71, .keep), (72, .keep)])]
def Γ334 : Orc := orc [(N344, s344), (N370, s370), (N371, s371), (N372, s327)]
def vsB (h k : Int) (l : List Int) (out : List Subset.D) : List AV := [.one (.int .i64 h), .one (.int .i64 k), .one (.sl true U none l), .arr true Subset out]
def inL (h k top : Int) : List Int → List Subset.D → List Subset.D
  | [], out => out
  | x :: r, out => inL h k top r (bif (bif k == 2 then true else (useI h (top, (othI h x).1)).1) then out ++ [(top, (othI h x).1)] else out)
def outL (h k : Int) : List Int → List Subset.D → List Subset.D
  | [], out => out
  | x :: r, out => outL h k r (inL h k x r out)
def wL (l : List Int) : List Subset.D := l.map fun x => (x, 0)
def vsW (h k : Int) (l l' : List Int) (out : List Subset.D) (n i : Int) : List AV := vsB h k l out ++ [.one (.sl true U none l'), .one (.int .i64 n), .one (.int .i64 i)]
def vsI (h k : Int) (l : List Int) (out : List Subset.D) (t top : Int) (l2 : List Int) (n i : Int) (l' : List Int) (n' i' : Int) : List AV := vsB h k l out ++ [.one (.int .i64 t), .one (.int .u64 top), .one (.sl true U none l2), .one (.int .i64 n), .one (.int .i64 i), .one (.sl true U none l'), .one (.int .i64 n'), .one (.int .i64 i')]
def cI (l' : List Int) (n' : Int) (out : List Subset.D) : Bool := decide (n' = l'.length) && decide (n' ≤ 64) && decide (out.length ≤ 4500)
def Λ334 : Lam AV := fun cur vs K =>
  match cur, vs with
  | 0, [.one (.int .i64 h), .one (.int .i64 k), .one (.sl true (.int .u64) none l), .arr true (.pair (.int .u64) (.int .u64)) [], .one (.sl true (.int .u64) none l'), .one (.int .i64 n), .one (.int .i64 0)] =>
    bif decide (n = l'.length) && decide (n ≤ 64) then K (.exit 0) (vsW h k l l' (wL l') n n) else none
  | 2, [.one (.int .i64 h), .one (.int .i64 k), .one (.sl true (.int .u64) none l), .arr true (.pair (.int .u64) (.int .u64)) out, .one (.sl true (.int .u64) none l'), .one (.int .i64 n), .one (.int .i64 0)] =>
    bif decide (n = l'.length) && decide (n ≤ 64) && decide (l' = l) && decide (out.length ≤ 1) then K (.exit 2) (vsW h k l l' (outL h k l' out) n n) else none
  | 4, [.one (.int .i64 h), .one (.int .i64 k), .one (.sl true (.int .u64) none l), .arr true (.pair (.int .u64) (.int .u64)) out, .one (.int .i64 t), .one (.int .u64 top), .one (.sl true (.int .u64) none l2), .one (.int .i64 n), .one (.int .i64 i), .one (.sl true (.int .u64) none l'), .one (.int .i64 n'), .one (.int .i64 0)] =>
    bif cI l' n' out then K (.exit 4) (vsI h k l (inL h k top l' out) t top l2 n i l' n' n') else none
  | _, _ => none
noncomputable abbrev lq0 (K : AE → List AV → Option AV) (fuel : Nat) (vs : List AV) : Option AV := loopN (aexec tb Γ334 Λ334 ⟨103, 0, live334⟩ (loopK F334 0).2 0) 103 0 (lvB ++ [(43, .keep), (44, .keep), (45, .keep)]) K fuel vs
noncomputable abbrev lq2 (K : AE → List AV → Option AV) (fuel : Nat) (vs : List AV) : Option AV := loopN (aexec tb Γ334 Λ334 ⟨103, 0, live334⟩ (loopK F334 1).2 2) 103 0 (lvB ++ [(60, .keep), (61, .keep), (62, .keep)]) K fuel vs
noncomputable abbrev lq4 (K : AE → List AV → Option AV) (fuel : Nat) (vs : List AV) : Option AV := loopN (aexec tb Γ334 Λ334 ⟨103, 0, live334⟩ (loopK F334 2).2 4) 103 0 (lvB ++ [(14, .keep), (15, .keep), (60, .keep), (61, .keep), (62, .keep), (70, .keep), (71, .keep), (72, .keep)]) K fuel vs
theorem stq0 (h k : Int) (l l' : List Int) (out : List Subset.D) (n i : Int) (fuel : Nat) (K : AE → List AV → Option AV) : lq0 K (fuel + 1) (vsW h k l l' out n i) =
    bif decide (i < n) then bif inB i l'.length then bif decide ((out.length + 1) * 16 ≤ 140737488355328) then lq0 K fuel (vsW h k l l' (out ++ [(iAt l' i, 0)]) n (IntKind.i64.wrap (i + 1))) else none else none else K (.exit 0) (vsW h k l l' out n i) := by kernel_rfl
theorem stq4 (h k : Int) (l : List Int) (out : List Subset.D) (t top : Int) (l2 : List Int) (n i : Int) (l' : List Int) (n' i' : Int) (fuel : Nat) (K : AE → List AV → Option AV) : lq4 K (fuel + 1) (vsI h k l out t top l2 n i l' n' i') =
    bif decide (i' < n') then bif inB i' l'.length then
      bif (bif k == 2 then true else (useI h (top, (othI h (iAt l' i')).1)).1) then bif decide ((out.length + 1) * 16 ≤ 140737488355328) then lq4 K fuel (vsI h k l (out ++ [(top, (othI h (iAt l' i')).1)]) t top l2 n i l' n' (IntKind.i64.wrap (i' + 1))) else none
      else lq4 K fuel (vsI h k l out t top l2 n i l' n' (IntKind.i64.wrap (i' + 1)))
    else none else K (.exit 4) (vsI h k l out t top l2 n i l' n' i') := by kernel_rfl
theorem stq2 (h k : Int) (l l' : List Int) (out : List Subset.D) (n i : Int) (fuel : Nat) (K : AE → List AV → Option AV) : lq2 K (fuel + 1) (vsW h k l l' out n i) =
    bif decide (i < n) then bif inB i l'.length then bif decide (0 ≤ IntKind.i64.wrap (i + 1)) && decide (IntKind.i64.wrap (i + 1) ≤ (l.length : Int)) then
      bif cI (l.drop (IntKind.i64.wrap (i + 1)).toNat) ((l.drop (IntKind.i64.wrap (i + 1)).toNat).length : Int) out then
        lq2 K fuel (vsW h k l l' (inL h k (iAt l' i) (l.drop (IntKind.i64.wrap (i + 1)).toNat) out) n (IntKind.i64.wrap (i + 1))) else none else none else none
    else K (.exit 2) (vsW h k l l' out n i) := by kernel_rfl
theorem inL_len (h k top : Int) : ∀ (l : List Int) (out : List Subset.D), (inL h k top l out).length ≤ out.length + l.length := by
  intro l
  induction l with
  | nil => intro out; exact Nat.le_refl _
  | cons x l ih =>
    intro out
    refine Nat.le_trans (ih _) ?_
    cases (bif k == 2 then true else (useI h (top, (othI h x).1)).1) <;> simp <;> omega
theorem loop334a : LoopP tb Γ334 Λ334 ⟨103, 0, live334⟩ (loopK F334 0) := by
  intro vs K out e
  have hcur : (loopK F334 0).1 = 0 := by kernel_rfl
  rw [hcur] at e ⊢
  unfold Λ334 at e
  split at e
  · rename_i h k l l' n _
    cases hc : (decide (n = l'.length) && decide (n ≤ 64)) with
    | false => rw [hc] at e; cases e
    | true =>
      rw [hc] at e
      simp only [cond_true] at e
      simp only [Bool.and_eq_true, decide_eq_true_eq] at hc
      obtain ⟨rfl, hn⟩ := hc
      refine upLoopI (α := List Subset.D) (n := l'.length) (F := fun fuel o i => lq0 K fuel (vsW h k l l' o l'.length i))
        (G := fun j o => K (.exit 0) (vsW h k l l' (o ++ wL (l'.drop j)) l'.length l'.length)) (Inv := fun j o => o.length ≤ j) (fun fuel o => ?_) (fun o j hj hi => ?_) l'.length 0 [] out (by omega) (Nat.le_refl 0) e
      · simp only [stq0, nlt_dec, cond_false, List.drop_length, wL, List.map_nil, List.append_nil]
      · left
        refine ⟨o ++ [(iAt l' j, 0)], by simp; omega, fun fuel => ?_, ?_⟩
        · simp only [stq0, lt_dec hj, inB_lt hj, cond_true, len_ok (show o.length ≤ 5000 by omega)]
          rw [wrap64 (n := (j : Int) + 1) (by omega) (by omega)]; rfl
        · rw [iAt_drop hj]; simp only [wL, List.map_cons, List.append_assoc, List.singleton_append]
  · rename_i hh; cases hh
  · rename_i hh; cases hh
  · cases e
theorem loop334c : LoopP tb Γ334 Λ334 ⟨103, 0, live334⟩ (loopK F334 2) := by
  intro vs K out e
  have hcur : (loopK F334 2).1 = 4 := by kernel_rfl
  rw [hcur] at e ⊢
  unfold Λ334 at e
  split at e
  · rename_i hh; cases hh
  · rename_i hh; cases hh
  · rename_i h k l o0 t top l2 n i l' n' _
    cases hc : cI l' n' o0 with
    | false => rw [hc] at e; cases e
    | true =>
      rw [hc] at e
      simp only [cond_true] at e
      simp only [cI, Bool.and_eq_true, decide_eq_true_eq] at hc
      obtain ⟨⟨rfl, hn⟩, ho⟩ := hc
      refine upLoopI (α := List Subset.D) (n := l'.length) (F := fun fuel o i' => lq4 K fuel (vsI h k l o t top l2 n i l' l'.length i'))
        (G := fun j o => K (.exit 4) (vsI h k l (inL h k top (l'.drop j) o) t top l2 n i l' l'.length l'.length)) (Inv := fun j o => o.length ≤ 4500 + j) (fun fuel o => ?_) (fun o j hj hi => ?_) l'.length 0 o0 out (by omega) (by omega) e
      · simp only [stq4, nlt_dec, cond_false, List.drop_length, inL]
      · left
        refine ⟨bif (bif k == 2 then true else (useI h (top, (othI h (iAt l' j)).1)).1) then o ++ [(top, (othI h (iAt l' j)).1)] else o, by cases (bif k == 2 then true else (useI h (top, (othI h (iAt l' j)).1)).1) <;> simp <;> omega, fun fuel => ?_, ?_⟩
        · simp only [stq4, lt_dec hj, inB_lt hj, cond_true, len_ok (show o.length ≤ 5000 by omega)]
          rw [wrap64 (n := (j : Int) + 1) (by omega) (by omega)]
          cases (bif k == 2 then true else (useI h (top, (othI h (iAt l' j)).1)).1) <;> rfl
        · rw [iAt_drop hj, inL]
  · cases e
theorem loop334b : LoopP tb Γ334 Λ334 ⟨103, 0, live334⟩ (loopK F334 1) := by
  intro vs K out e
  have hcur : (loopK F334 1).1 = 2 := by kernel_rfl
  rw [hcur] at e ⊢
  unfold Λ334 at e
  split at e
  · rename_i hh; cases hh
  · rename_i h k l o0 l' n _
    cases hc : (decide (n = l'.length) && decide (n ≤ 64) && decide (l' = l) && decide (o0.length ≤ 1)) with
    | false => rw [hc] at e; cases e
    | true =>
      rw [hc] at e
      simp only [cond_true] at e
      simp only [Bool.and_eq_true, decide_eq_true_eq] at hc
      obtain ⟨⟨⟨rfl, hn⟩, rfl⟩, ho⟩ := hc
      refine upLoopI (α := List Subset.D) (n := l'.length) (F := fun fuel o i => lq2 K fuel (vsW h k l' l' o l'.length i))
        (G := fun j o => K (.exit 2) (vsW h k l' l' (outL h k (l'.drop j) o) l'.length l'.length)) (Inv := fun j o => o.length ≤ 1 + 64 * j) (fun fuel o => ?_) (fun o j hj hi => ?_) l'.length 0 o0 out (by omega) (by omega) e
      · simp only [stq2, nlt_dec, cond_false, List.drop_length, outL]
      · left
        refine ⟨inL h k (iAt l' j) (l'.drop (j + 1)) o, Nat.le_trans (inL_len _ _ _ _ _) (by rw [List.length_drop]; omega), fun fuel => ?_, ?_⟩
        · have e1 : IntKind.i64.wrap ((j : Int) + 1) = ((j + 1 : Nat) : Int) := wrap64 (n := (j : Int) + 1) (by omega) (by omega)
          have hc4 : cI (l'.drop (j + 1)) ((l'.drop (j + 1)).length : Int) o = true := by
            simp only [cI, Bool.and_eq_true, decide_eq_true_eq, List.length_drop]
            refine ⟨⟨trivial, ?_⟩, ?_⟩ <;> omega
          simp only [stq2, lt_dec hj, inB_lt hj, cond_true, e1, Int.toNat_natCast, hc4]
          rw [decide_eq_true (show (0 : Int) ≤ ((j + 1 : Nat) : Int) by omega), decide_eq_true (show ((j + 1 : Nat) : Int) ≤ (l'.length : Int) by omega)]; rfl
        · rw [iAt_drop hj, outL]
  · rename_i hh; cases hh
  · cases e
def refP (h k i : Int) : Option AV :=
  bif (bif bif (leafI h i).2 != 0 then true else decide (k < 1) then true else decide (k > 3)) then some (rls [] 1) else bif decide (1 ≤ (leafI h i).1) then
    bif k == 1 then bif decide (((chainN (leafI h i).1.toNat).length : Int) = (chainN (leafI h i).1.toNat).length) && decide (((chainN (leafI h i).1.toNat).length : Int) ≤ 64) then some (rls (wL (chainN (leafI h i).1.toNat)) 0) else none
    else bif decide (((chainN (leafI h i).1.toNat).length : Int) = (chainN (leafI h i).1.toNat).length) && decide (((chainN (leafI h i).1.toNat).length : Int) ≤ 64) && decide (chainN (leafI h i).1.toNat = chainN (leafI h i).1.toNat) && decide (([(1, 0)] : List Subset.D).length ≤ 1) then
      some (rls (outL h k (chainN (leafI h i).1.toNat) [(1, 0)]) 0) else none else none
theorem r334 (h k i : Int) : run Γ334 Λ334 live334 F334 (encA [.v I, .v I, .v U] (h, k, i)) [.sl true Subset] = refP h k i := by kernel_rfl
end Go.AM.Seat
