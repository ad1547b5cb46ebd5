/- The seat: contracts: stores. -/
import Derived.Test.YtoeijiackpanoaaSeL1
set_option linter.unusedVariables false
set_option maxRecDepth 100000
set_option linter.unusedSimpArgs false
namespace Go.AM.Seat
open Go Go.AM Go.Proofs

@[reducible] def Entry : Ty := .pair Subset Value
abbrev live349 : List (Nat × Dir) := [(0, .keep), (4, .keep), (10, .keep), (11, .keep), (36, .keep), (37, .keep), (38, .keep)]
def vs349 (l : List Term.D) (e0 : List Entry.D) (r : Int) (ps : List Subset.D) (es : List Entry.D) (n i : Int) : List AV := [.one (.sl false Term none l), .one (.sl false Entry none e0), .one (.int .i64 r), .one (.sl true Subset none ps), .one (.sl false Entry none es), .one (.int .i64 n), .one (.int .i64 i)]
def openB (l : List Term.D) (v : Value.D) : Bool := bif (bif checkV l v == 0 then !v.2.1 else false) then bif !v.1 then true else (tAt l v.2.2.2.2).1 != 5 else false
def g379' (l : List Term.D) (v : Value.D) : Bool := inB v.2.2.2.2 l.length || !(boolBeq (bif checkV l v == 0 then !v.2.1 else false) true && boolBeq (!v.1) false)
theorem r379 (l : List Term.D) (v : Value.D) : run (orc [(N19, s19)]) noL [] F379 (encA [.v (.sl Term), .v Value] (l, v)) [] = bif g379' l v then some (.one (.bool (openB l v))) else none := by kernel_rfl
def s379 : Sp := .fn [.v (.sl Term), .v Value] fun x => (true, .one (.bool (openB x.1 x.2)))
def Γ349 : Orc := orc [(N310, s310), (N49, s49), (N379, s379)]
abbrev live317 : List (Nat × Dir) := [(0, .keep), (1, .keep), (2, .keep), (8, .keep), (10, .keep), (11, .keep), (12, .keep), (14, .keep), (17, .arr Entry), (43, .keep), (44, .keep), (45, .keep)]
def Γ317 : Orc := orc [(N310, s310), (N346, s346), (N320, s320), (N347, s347)]
def vs317 (l : List Term.D) (h k : Int) (m : Value.D) (r e : Int) (out : List Entry.D) (ps : List Subset.D) (n i : Int) : List AV :=
  [.one (.sl true Term none l), .one (.int .i64 h), .one (.int .i64 k), .own (enc Value false m), .one .nils, .one .nils, .one (.int .i64 r), .one (.int .i64 e), .arr true Entry out, .one (.sl true Subset none ps), .one (.int .i64 n), .one (.int .i64 i)]
/-! ### store.Make -/
def set1 (out : List Entry.D) (i : Int) (s : Subset.D) : List Entry.D := out.set i.toNat (s, (out.getD i.toNat Entry.dflt).2)
def set2 (out : List Entry.D) (i : Int) (v : Value.D) : List Entry.D := out.set i.toNat ((out.getD i.toNat Entry.dflt).1, v)
noncomputable abbrev lp317 (Λ : Lam AV) (K : AE → List AV → Option AV) (fuel : Nat) (vs : List AV) : Option AV := loopN (aexec tb Γ317 Λ ⟨91, 0, [(0, live317)]⟩ (loopK F317 0).2 0) 91 0 live317 K fuel vs
noncomputable def st317 (Λ : Lam AV) (K : AE → List AV → Option AV) (fuel : Nat) (x : WS) (h k : Int) (m : Value.D) (r : Int) (out : List Entry.D) (ps : List Subset.D) (n i : Int) : Option AV :=
  bif inB i (set1 out i (sAt ps i)).length then
    bif x.2.2 != 0 then K .ret (vs317 x.2.1 h k m x.2.2 x.2.2 (set2 (set1 out i (sAt ps i)) i x.1) ps n i) else lp317 Λ K fuel (vs317 x.2.1 h k m r x.2.2 (set2 (set1 out i (sAt ps i)) i x.1) ps n (IntKind.i64.wrap (i + 1)))
  else none
theorem step317 (l : List Term.D) (h k : Int) (m : Value.D) (r e : Int) (out : List Entry.D) (ps : List Subset.D) (n i : Int) (Λ : Lam AV) (fuel : Nat) (K : AE → List AV → Option AV) : lp317 Λ K (fuel + 1) (vs317 l h k m r e out ps n i) =
    bif decide (i < n) then bif inB i ps.length then bif inB i out.length then
      bif (sAt ps i).2 == 0 then bif small24 l.length then st317 Λ K fuel (keyV l h k m (sAt ps i)) h k m r out ps n i else none
      else bif small24 l.length then st317 Λ K fuel (labelV l h m (sAt ps i)) h k m r out ps n i else none
    else none else none else K (.exit 0) (vs317 l h k m r e out ps n i) := by kernel_rfl
theorem makeL_bd (l : List Term.D) (t : Term.D) : (makeL l t).2.1.length ≤ max l.length 65537 := by
  simp only [makeL]
  cases h0 : (findL l t).2 == 0 with
  | true => simp only [cond_true]; omega
  | false =>
    cases h4 : (findL l t).2 != 4 with
    | true => simp
    | false =>
      have hl := ixL_len (findL_ok (.inr (by simpa using h4)))
      cases (l.length : Int) == 65536 with
      | true => simp
      | false => simp; omega
theorem madeV_bd (l : List Term.D) (t : Term.D) : (madeV l t).2.1.length ≤ max l.length 65537 := by
  unfold madeV
  cases (makeL l t).2.2 != 0 with
  | true => simp
  | false => exact makeL_bd l t
theorem partV_bd (l : List Term.D) (v : Value.D) (i : Int) : (partV l v i).2.1.length ≤ max l.length 65537 := by
  unfold partV
  cases partBad l v i with
  | true => simp
  | false =>
    cases v.1 with
    | true => exact madeV_bd l _
    | false => simp; omega
theorem stepW_bd (x : WS) (i : Int) : (stepW x i).2.1.length ≤ max x.2.1.length 65537 := by
  unfold stepW
  cases x.2.2 == 0 with
  | true => exact partV_bd _ _ _
  | false => simp only [cond_false]; omega
theorem walkL_bd : ∀ (sd : List Int) (x : WS), (walkL x sd).2.1.length ≤ max x.2.1.length 65537 := by
  intro sd
  induction sd with
  | nil => intro x; simp only [walkL]; omega
  | cons i sd ih =>
    intro x
    have h1 := ih (stepW x i)
    have h2 := stepW_bd x i
    simp only [walkL]; omega
theorem pathW_bd (x : WS) (h a b : Int) : (pathW x h a b).2.1.length ≤ max x.2.1.length 65537 := by
  unfold pathW
  refine Nat.le_trans (walkL_bd _ _) ?_
  cases x.2.2 == 0 <;> simp <;> omega
theorem labelW_bd (x : WS) (h : Int) (s : Subset.D) : (labelW x h s).2.1.length ≤ max x.2.1.length 65537 := by
  have h1 := pathW_bd x h 1 s.1
  have h2 := stepW_bd (pathW x h 1 s.1) 2
  unfold labelW
  cases s.2 != 0 with
  | true =>
    have h3 := pathW_bd (stepW (pathW x h 1 s.1) 2) h s.1 s.2
    simp only [cond_true]; omega
  | false => simp only [cond_false]; omega
theorem endW_bd (x : WS) : (endW x).2.1.length ≤ x.2.1.length := by
  unfold endW
  cases x.2.2 != 0 <;> simp
theorem keyV_bd (l : List Term.D) (h k : Int) (v : Value.D) (s : Subset.D) : (keyV l h k v s).2.1.length ≤ max l.length 65537 := by
  unfold keyV
  cases noKey l h k v s with
  | true => simp
  | false =>
    have h1 := labelW_bd (startW l v) h s
    have h2 := stepW_bd (labelW (startW l v) h s) 2
    have h3 := endW_bd (stepW (labelW (startW l v) h s) 2)
    have h4 := endW_bd (labelW (startW l v) h s)
    have h5 : (startW l v).2.1.length = l.length := rfl
    cases k != 1 with
    | true => simp only [cond_true, cond_false]; omega
    | false => simp only [cond_false]; omega
theorem labelV_bd (l : List Term.D) (h : Int) (v : Value.D) (s : Subset.D) : (labelV l h v s).2.1.length ≤ max l.length 65537 := by
  unfold labelV
  cases noLab l h v s with
  | true => simp
  | false =>
    have h1 := labelW_bd (startW l v) h s
    have h4 := endW_bd (labelW (startW l v) h s)
    have h5 : (startW l v).2.1.length = l.length := rfl
    simp only [cond_false]; omega
theorem walkV_bd (l : List Term.D) (v : Value.D) (sd : List Int) : (walkV l v sd).2.1.length ≤ max l.length 65537 := by
  unfold walkV
  cases noWalk l v sd with
  | true => simp
  | false =>
    have h1 := walkL_bd sd (startW l v)
    have h4 := endW_bd (walkL (startW l v) sd)
    have h5 : (startW l v).2.1.length = l.length := rfl
    simp only [cond_false]; omega
theorem small_le {n : Nat} (h : n ≤ 1000000) : small24 n = true := decide_eq_true (by omega)
def mkV (l : List Term.D) (h k : Int) (m : Value.D) (s : Subset.D) : WS := bif s.2 == 0 then keyV l h k m s else labelV l h m s
theorem mkV_bd (l : List Term.D) (h k : Int) (m : Value.D) (s : Subset.D) : (mkV l h k m s).2.1.length ≤ max l.length 65537 := by
  unfold mkV
  cases s.2 == 0 with
  | true => exact keyV_bd _ _ _ _ _
  | false => exact labelV_bd _ _ _ _
/-- What the loop comes to: was it left; the terms; the entries; the error; where. -/
def mkR (h k : Int) (m : Value.D) (ps : List Subset.D) : Nat → Nat → List Term.D → List Entry.D → Int → Bool × List Term.D × List Entry.D × Int × Nat
  | 0, j, l, out, e => (false, l, out, e, j)
  | n + 1, j, l, out, e =>
    bif (mkV l h k m (sAt ps j)).2.2 != 0 then (true, (mkV l h k m (sAt ps j)).2.1, set2 (set1 out j (sAt ps j)) j (mkV l h k m (sAt ps j)).1, (mkV l h k m (sAt ps j)).2.2, j)
    else mkR h k m ps n (j + 1) (mkV l h k m (sAt ps j)).2.1 (set2 (set1 out j (sAt ps j)) j (mkV l h k m (sAt ps j)).1) (mkV l h k m (sAt ps j)).2.2
def finR (h k : Int) (m : Value.D) (r : Int) (ps : List Subset.D) (n : Int) (K : AE → List AV → Option AV) (x : Bool × List Term.D × List Entry.D × Int × Nat) : Option AV :=
  bif x.1 then K .ret (vs317 x.2.1 h k m x.2.2.2.1 x.2.2.2.1 x.2.2.1 ps n x.2.2.2.2) else K (.exit 0) (vs317 x.2.1 h k m r x.2.2.2.1 x.2.2.1 ps n n)
def Λ317 : Lam AV := fun cur vs K =>
  match cur, vs with
  | 0, [.one (.sl true (.pair (.int .i64) (.pair (.int .i64) (.int .i64))) none l), .one (.int .i64 h), .one (.int .i64 k), .own cs, .one .nils, .one .nils, .one (.int .i64 r), .one (.int .i64 e), .arr true (.pair (.pair (.int .u64) (.int .u64)) (.pair .bool (.pair .bool (.pair (.pair (.int .u64) (.int .u64)) (.pair (.pair (.pair (.int .u64) (.int .u64)) (.pair (.int .u64) (.int .u64))) (.int .i64)))))) out,
      .one (.sl true (.pair (.int .u64) (.int .u64)) none ps), .one (.int .i64 n), .one (.int .i64 0)] =>
    (match unV (.agg cs) with
    | some m => bif decide (n = ps.length) && decide (out.length = ps.length) && decide (l.length ≤ 1000000) && decide (n ≤ 9223372036854775807) then finR h k m r ps n K (mkR h k m ps n.toNat 0 l out e) else none
    | none => none)
  | _, _ => none
theorem set_len1 (out : List Entry.D) (i : Int) (s : Subset.D) : (set1 out i s).length = out.length := by unfold set1; simp
theorem set_len2 (out : List Entry.D) (i : Int) (v : Value.D) : (set2 out i v).length = out.length := by unfold set2; simp
theorem own_eq {cs : List SV} {m : Value.D} (h : unV (.agg cs) = some m) : AV.own cs = .own (enc Value false m) := by
  have := unV_eq h
  have e : cs = enc Value false m := by injection this
  rw [e]
theorem loop317 : LoopP tb Γ317 Λ317 ⟨91, 0, [(0, live317)]⟩ (loopK F317 0) := by
  intro vs K out e
  have hcur : (loopK F317 0).1 = 0 := by kernel_rfl
  rw [hcur] at e ⊢
  unfold Λ317 at e
  split at e
  · rename_i l h k cs r e0 o0 ps n _
    split at e
    · rename_i m hm
      cases hc : (decide (n = ps.length) && decide (o0.length = ps.length) && decide (l.length ≤ 1000000) && decide (n ≤ 9223372036854775807)) with
      | false => rw [hc] at e; cases e
      | true =>
        rw [hc] at e
        simp only [cond_true] at e
        simp only [Bool.and_eq_true, decide_eq_true_eq] at hc
        obtain ⟨⟨⟨rfl, ho⟩, hl⟩, hmax⟩ := hc
        rw [own_eq hm]
        refine upLoopI (α := List Term.D × List Entry.D × Int) (n := ps.length) (F := fun fuel a i => lp317 Λ317 K fuel (vs317 a.1 h k m r a.2.2 a.2.1 ps ps.length i))
          (G := fun j a => finR h k m r ps ps.length K (mkR h k m ps (ps.length - j) j a.1 a.2.1 a.2.2)) (Inv := fun j a => a.1.length ≤ 1000000 ∧ a.2.1.length = ps.length)
          (fun fuel a => ?_) (fun a j hj hi => ?_) ps.length 0 (l, o0, e0) out (by omega) ⟨hl, ho⟩ e
        · simp only [step317, nlt_dec, cond_false, Nat.sub_self, mkR, finR]
        · obtain ⟨i1, i2⟩ := hi
          have hm' : ps.length - j = (ps.length - (j + 1)) + 1 := by omega
          have hs : lp317 Λ317 K = fun fuel => lp317 Λ317 K fuel := rfl
          have hstep : ∀ fuel, lp317 Λ317 K (fuel + 1) (vs317 a.1 h k m r a.2.2 a.2.1 ps ps.length j) = st317 Λ317 K fuel (mkV a.1 h k m (sAt ps j)) h k m r a.2.1 ps ps.length j := by
            intro fuel
            rw [step317, lt_dec hj, inB_lt hj, inB_lt (show j < a.2.1.length by omega), small_le i1]
            unfold mkV
            cases (sAt ps j).2 == 0 <;> rfl
          have hst : ∀ fuel, st317 Λ317 K fuel (mkV a.1 h k m (sAt ps j)) h k m r a.2.1 ps ps.length j = bif (mkV a.1 h k m (sAt ps j)).2.2 != 0 then K .ret (vs317 (mkV a.1 h k m (sAt ps j)).2.1 h k m (mkV a.1 h k m (sAt ps j)).2.2 (mkV a.1 h k m (sAt ps j)).2.2 (set2 (set1 a.2.1 j (sAt ps j)) j (mkV a.1 h k m (sAt ps j)).1) ps ps.length j)
              else lp317 Λ317 K fuel (vs317 (mkV a.1 h k m (sAt ps j)).2.1 h k m r (mkV a.1 h k m (sAt ps j)).2.2 (set2 (set1 a.2.1 j (sAt ps j)) j (mkV a.1 h k m (sAt ps j)).1) ps ps.length ((j + 1 : Nat) : Int)) := by
            intro fuel
            unfold st317
            rw [inB_lt (show j < (set1 a.2.1 j (sAt ps j)).length by rw [set_len1]; omega), wrap64 (n := (j : Int) + 1) (by omega) (by omega)]; rfl
          cases hx : (mkV a.1 h k m (sAt ps j)).2.2 != 0 with
          | true =>
            right; intro fuel
            rw [hstep, hst, hx, hm', mkR, hx]; rfl
          | false =>
            left
            refine ⟨((mkV a.1 h k m (sAt ps j)).2.1, set2 (set1 a.2.1 j (sAt ps j)) j (mkV a.1 h k m (sAt ps j)).1, (mkV a.1 h k m (sAt ps j)).2.2), ⟨?_, by rw [set_len2, set_len1]; exact i2⟩, fun fuel => ?_, ?_⟩
            · have := mkV_bd a.1 h k m (sAt ps j); simp only; omega
            · rw [hstep, hst, hx]; rfl
            · rw [hm', mkR, hx]; rfl
    · cases e
  · cases e
def rEs (out : List Entry.D) (l : List Term.D) (e : Int) : AV := .tup [(false, [.sl true Entry none out]), (false, [.sl true Term none l]), (false, [.int .i64 e])]
@[reducible] def M5 : List AK := [.v (.sl Term), .v I, .v I, .v Value, .v U]
def noMk (l : List Term.D) (h k : Int) (m : Value.D) (i : Int) : Bool := bif (pairsL h k i).2 != 0 then true else (walkV l m []).2.2 != 0
def mkX (l : List Term.D) (h k : Int) (m : Value.D) (i : Int) : Bool × List Term.D × List Entry.D × Int × Nat :=
  mkR h k m (pairsL h k i).1 ((pairsL h k i).1.length : Int).toNat 0 (walkV l m []).2.1 (List.replicate ((pairsL h k i).1.length : Int).toNat Entry.dflt) (pairsL h k i).2
def endR (x : Bool × List Term.D × List Entry.D × Int × Nat) : Option AV := bif x.1 then some (rEs [] [] x.2.2.2.1) else some (rEs x.2.2.1 x.2.1 0)
def c317 (l : List Term.D) (ps : List Subset.D) : Bool := decide ((ps.length : Int) = ps.length) && decide ((List.replicate (ps.length : Int).toNat Entry.dflt).length = ps.length) && decide (l.length ≤ 1000000) && decide ((ps.length : Int) ≤ 9223372036854775807)
theorem r317 (l : List Term.D) (h k : Int) (m : Value.D) (i : Int) : run Γ317 Λ317 [(0, live317)] F317 (encA M5 (l, h, k, m, i)) [.sl true Entry, .sl true Term, .id] =
    bif small24 l.length then bif noMk l h k m i then some (rEs [] [] 1) else
      bif decide (0 ≤ ((pairsL h k i).1.length : Int)) && decide (((pairsL h k i).1.length : Int) ≤ (pairsL h k i).1.length) && decide ((80 : Int) * (pairsL h k i).1.length ≤ 281474976710656) then
        bif c317 (walkV l m []).2.1 (pairsL h k i).1 then endR (mkX l h k m i) else none else none else none := by kernel_rfl
theorem outG_bd (h k leaf : Int) : ∀ (m t : Nat) (out : List Subset.D), (outG h k leaf m t out).length ≤ out.length + m * h.toNat := by
  intro m
  induction m with
  | zero => intro t out; simp [outG]
  | succ m ih =>
    intro t out
    refine Nat.le_trans (ih _ _) ?_
    have := inG_len h k leaf t (h.toNat - t) (t + 1) out
    rw [Nat.succ_mul]
    omega
theorem wG_bd (h leaf : Int) : ∀ (m j : Nat) (out : List Subset.D), (wG h leaf m j out).length = out.length + m := by
  intro m
  induction m with
  | zero => intro j out; rfl
  | succ m ih => intro j out; rw [wG, ih]; simp; omega
theorem pairs_bd (h k i : Int) : (pairsL h k i).1.length ≤ 2000 := by
  unfold pairsL
  cases hn : noPr h k i with
  | true => exact Nat.zero_le _
  | false =>
    obtain ⟨h1, h2, _⟩ := many_ok (noPr_ok hn).1
    cases k == 1 with
    | true =>
      show (wG h (leafI h i).1 (h.toNat + 1) 0 []).length ≤ _
      rw [wG_bd]
      have : h.toNat ≤ 32 := by omega
      simp; omega
    | false =>
      refine Nat.le_trans (outG_bd _ _ _ _ _ _) ?_
      have : h.toNat * h.toNat ≤ 32 * 32 := Nat.mul_le_mul (by omega) (by omega)
      simp; omega
def makeV (l : List Term.D) (h k : Int) (m : Value.D) (i : Int) : List Entry.D × List Term.D × Int :=
  bif noMk l h k m i then ([], [], 1) else bif (mkX l h k m i).1 then ([], [], (mkX l h k m i).2.2.2.1) else ((mkX l h k m i).2.2.1, (mkX l h k m i).2.1, 0)
def rE (x : List Entry.D × List Term.D × Int) : AV := rEs x.1 x.2.1 x.2.2
def s317 : Sp := .fn M5 fun x => (decide (x.1.length ≤ 1000000), rE (makeV x.1 x.2.1 x.2.2.1 x.2.2.2.1 x.2.2.2.2))
theorem g317 : GoodS Try.prog N317 s317 := by
  refine good (.cons g310 (.cons g346 (.cons g320 (.cons g347 (.nil _))))) H317 rfl (by kernel_rfl) Λ317 [(0, live317)] (oneLoop (p0 := loopK F317 0) (by kernel_rfl) loop317) M5 (by decide) [.sl true Entry, .sl true Term, .id] _ fun x r hw e => ?_
  obtain ⟨l, h, k, m, i⟩ := x
  have e1 := congrArg Prod.fst e
  have e2 := congrArg Prod.snd e
  simp only [decide_eq_true_eq] at e1
  simp only at e2
  refine (r317 l h k m i).trans ?_
  rw [small_le e1, ← e2]
  unfold makeV
  cases noMk l h k m i with
  | true => rfl
  | false =>
    have hb := pairs_bd h k i
    have hw2 := walkV_bd l m []
    have hg : (decide (0 ≤ ((pairsL h k i).1.length : Int)) && decide (((pairsL h k i).1.length : Int) ≤ (pairsL h k i).1.length) && decide ((80 : Int) * (pairsL h k i).1.length ≤ 281474976710656)) = true := by
      rw [decide_eq_true (show 0 ≤ ((pairsL h k i).1.length : Int) by omega), decide_eq_true (Int.le_refl _), decide_eq_true (by omega)]; rfl
    have hc : c317 (walkV l m []).2.1 (pairsL h k i).1 = true := by
      unfold c317
      rw [decide_eq_true (show ((pairsL h k i).1.length : Int) = (pairsL h k i).1.length from rfl), decide_eq_true (show (List.replicate ((pairsL h k i).1.length : Int).toNat Entry.dflt).length = (pairsL h k i).1.length by rw [List.length_replicate, Int.toNat_natCast]), decide_eq_true (by omega), decide_eq_true (by omega)]; rfl
    simp only [cond_true, cond_false]
    rw [hg, hc]
    unfold endR
    cases (mkX l h k m i).1 <;> rfl

end Go.AM.Seat
