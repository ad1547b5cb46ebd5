/- The law WalkKeys: its run, and that it answers true. -/
import Derived.Test.YtoeijiackpanoaaGreatSeWK
set_option linter.unusedVariables false
set_option linter.unusedSimpArgs false
set_option maxRecDepth 100000
namespace Go.AM.Seat
open Go Go.AM Go.Proofs

theorem step713 (l : List Term.D) (e0 : List Entry.D) (r : Int) (ps : List Subset.D) (es : List Entry.D) (n i : Int) (Λ : Lam AV) (fuel : Nat) (K : AE → List AV → Option AV) : lp713 Λ K (fuel + 1) (vs349 l e0 r ps es n i) =
    bif decide (i < n) then bif inB i es.length then bif inB i ps.length then
      bif !(sameS (eAt es i).1 (sAt ps i)) then K .ret (vs349 l e0 1 ps es n i) else bif !openV l (eAt es i).2 then K .ret (vs349 l e0 1 ps es n i) else
      bif inB 0 e0.length then bif !((eAt es i).2.1 == (eAt e0 0).2.1) then K .ret (vs349 l e0 1 ps es n i) else lp713 Λ K fuel (vs349 l e0 r ps es n (IntKind.i64.wrap (i + 1))) else none
    else none else none else K (.exit 0) (vs349 l e0 r ps es n i) := by kernel_rfl
theorem loop713 : LoopP tb Γ713 Λ349 ⟨69, 0, [(0, live349)]⟩ (loopK F713 0) := by
  intro vs K out e
  have hcur : (loopK F713 0).1 = 0 := by kernel_rfl
  rw [hcur] at e ⊢
  unfold Λ349 at e
  split at e
  · rename_i l e0 r ps es n _
    cases hc : (decide (n = es.length) && decide (es.length = ps.length) && decide (n ≤ 9223372036854775807) && decide (e0.length = es.length)) with
    | false => rw [hc] at e; cases e
    | true =>
      rw [hc] at e
      simp only [cond_true] at e
      simp only [Bool.and_eq_true, decide_eq_true_eq] at hc
      obtain ⟨⟨⟨rfl, hl⟩, hmax⟩, he0⟩ := hc
      refine upLoop (α := Unit) (n := es.length) (F := fun fuel _ j => lp713 Λ349 K fuel (vs349 l e0 r ps es es.length j))
        (G := fun j _ => allK (fun j => K .ret (vs349 l e0 1 ps es es.length j)) (K (.exit 0) (vs349 l e0 r ps es es.length es.length)) (fun j => badE l e0 es ps j) (es.length - j) j)
        (fun fuel _ => ?_) (fun _ j hj => ?_) es.length 0 () out (by omega) e
      · simp only [step713, nlt_dec, cond_false, Nat.sub_self, allK]
      · have hm : es.length - j = (es.length - (j + 1)) + 1 := by omega
        have h0 : inB 0 e0.length = true := inB_lt (j := 0) (by omega)
        have hstep : ∀ fuel, lp713 Λ349 K (fuel + 1) (vs349 l e0 r ps es es.length j) = bif badE l e0 es ps j then K .ret (vs349 l e0 1 ps es es.length j) else lp713 Λ349 K fuel (vs349 l e0 r ps es es.length ((j + 1 : Nat) : Int)) := by
          intro fuel
          rw [step713, lt_dec hj, inB_lt hj, inB_lt (show j < ps.length by omega), h0, wrap64 (n := (j : Int) + 1) (by omega) (by omega)]
          unfold badE
          cases sameS (eAt es (j : Int)).1 (sAt ps (j : Int)) <;> cases openV l (eAt es (j : Int)).2 <;> rfl
        cases hx : badE l e0 es ps j with
        | true => right; intro fuel; rw [hstep, hx]; simp only [hm, allK, hx, cond_true]
        | false =>
          left; refine ⟨(), fun fuel => ?_, ?_⟩
          · rw [hstep, hx]; rfl
          · simp only [hm, allK, hx, cond_false]
  · cases e
def noCkR (l : List Term.D) (h k i : Int) (es : List Entry.D) : Bool := bif bif (pairsL h k i).2 != 0 then true else checkR l != 0 then true else ((pairsL h k i).1.length : Int) != es.length
theorem r713 (l : List Term.D) (h k i : Int) (es : List Entry.D) : run Γ713 Λ349 [(0, live349)] F713 (encA C5 (l, h, k, i, es)) [] =
    bif noCkR l h k i es then some (.one (.int .i64 1)) else
    bif decide ((es.length : Int) = es.length) && decide (es.length = (pairsL h k i).1.length) && decide ((es.length : Int) ≤ 9223372036854775807) && decide (es.length = es.length) then
      allK (fun _ => some (.one (.int .i64 1))) (some (.one (.int .i64 0))) (fun j => badE l es es (pairsL h k i).1 j) (es.length : Int).toNat 0 else none := by kernel_rfl
theorem noCkR_eq (l : List Term.D) (h k i : Int) (es : List Entry.D) : noCkR l h k i es = noCk l h k i es := by
  unfold noCkR noCk
  rw [checkR_eq]
  have : (((pairsL h k i).1.length : Int) != (es.length : Int)) = ((es.length : Int) != ((pairsL h k i).1.length : Int)) := by
    rw [Bool.eq_iff_iff]; simp only [bne_iff_ne]; exact ne_comm
  rw [this]
theorem g713 : GoodS Tryz.prog N713 s349 := by
  refine good (.cons g334 (.cons g51 (.cons g633 (.nil _)))) H713 rfl (by kernel_rfl) Λ349 [(0, live349)] (oneLoop (p0 := loopK F713 0) (by kernel_rfl) loop713) C5 (by decide) [] _ fun x r hw e => ?_
  obtain ⟨l, h, k, i, es⟩ := x
  cases e
  refine (r713 l h k i es).trans ?_
  show _ = some (AV.one (SV.int .i64 (checkS l h k i es)))
  rw [noCkR_eq]
  unfold checkS
  cases hn : noCk l h k i es with
  | true => rfl
  | false =>
    have hl : es.length = (pairsL h k i).1.length := by
      unfold noCk at hn
      cases h1 : (pairsL h k i).2 != 0 with
      | true => rw [h1] at hn; cases hn
      | false =>
        cases h2 : checkL l != 0 with
        | true => rw [h1, h2] at hn; cases hn
        | false =>
          rw [h1, h2] at hn
          simp only [cond_false] at hn
          have := (show (((es.length : Int) != ((pairsL h k i).1.length : Int)) = false) from hn)
          have := (bne_eq_false_iff_eq.1 this)
          exact_mod_cast this
    have hmx : es.length ≤ 9223372036854775807 := hw.2.2.2.2.1
    have hg : (decide ((es.length : Int) = es.length) && decide (es.length = (pairsL h k i).1.length) && decide ((es.length : Int) ≤ 9223372036854775807) && decide (es.length = es.length)) = true := by
      rw [decide_eq_true (show (es.length : Int) = es.length from rfl), decide_eq_true hl, decide_eq_true (show (es.length : Int) ≤ 9223372036854775807 by omega), decide_eq_true (show es.length = es.length from rfl)]; rfl
    rw [hg, allK_two, Int.toNat_natCast]
    simp only [cond_true, cond_false]
    cases anyK (fun j => badE l es es (pairsL h k i).1 j) es.length 0 <;> rfl
/-! ### Key -/
theorem entry_inB {l : List Term.D} {h k i : Int} {es : List Entry.D} {s : Subset.D} (hc : checkS l h k i es = 0) (he : (entryI h k i s).2.2 = 0) : inB (entryI h k i s).1 es.length = true := by
  obtain ⟨c1, _⟩ := checkS_len hc
  obtain ⟨c2, c3⟩ := entry_in he
  unfold inB
  rw [decide_eq_true c2, decide_eq_true (by rw [c1]; exact c3)]; rfl
theorem checkS_one {l : List Term.D} {h k i : Int} {es : List Entry.D} (hc : (checkS l h k i es != 0) = true) : checkS l h k i es = 1 := by
  unfold checkS at hc ⊢
  cases hn : noCk l h k i es with
  | true => rfl
  | false =>
    rw [hn] at hc
    cases ha : anyK (fun j => badE l es es (pairsL h k i).1 j) es.length 0 with
    | true => rfl
    | false => rw [ha] at hc; cases hc
def s706 : Sp := .fn K6 fun x => (decide (x.1.length ≤ 65000), vle (keyR x.1 x.2.1 x.2.2.1 x.2.2.2.1 x.2.2.2.2.1 x.2.2.2.2.2))
theorem g706 : GoodS Tryz.prog N706 s706 := by
  refine good (.cons g713 (.cons g314 (.cons g615 (.cons g23v (.nil _))))) H706 rfl (by kernel_rfl) noL [] (noLoops (by kernel_rfl)) K6 (by decide) wVle _ fun x r hw e => ?_
  obtain ⟨l, h, k, i, es, s⟩ := x
  have e1 := congrArg Prod.fst e
  have e2 := congrArg Prod.snd e
  simp only at e1 e2
  refine (r706 l h k i es s).trans ?_
  rw [show small65 l.length = true from e1, ← e2]
  unfold keyR
  cases hc : checkS l h k i es != 0 with
  | true => rw [checkS_one hc]; rfl
  | false =>
    cases he : (entryI h k i s).2.2 != 0 with
    | true => rfl
    | false =>
      rw [entry_inB (l := l) (by simpa using hc) (by simpa using he)]
      unfold fin319
      cases (bif (keyT l h k i es s).2.2 != 0 then true else s.2 == 0) <;> rfl
def s319io : Sp := .io fun a p gs => match a, p, gs with
  | [.one (.sl false (.pair (.int .i64) (.pair (.int .i64) (.int .i64))) none l), .one (.int .i64 h), .one (.int .i64 k), .one (.int .u64 i),
      .one (.sl false (.pair (.pair (.int .u64) (.int .u64)) (.pair .bool (.pair .bool (.pair (.pair (.int .u64) (.int .u64)) (.pair (.pair (.pair (.int .u64) (.int .u64)) (.pair (.int .u64) (.int .u64))) (.int .i64)))))) none es), .agg [.int .u64 s1, .int .u64 s2]], 0, [] =>
    some (small24 l.length, rowV (keyR l h k i es (s1, s2)).1 (keyR l h k i es (s1, s2)).2.2, [.arr true Term (keyR l h k i es (s1, s2)).2.1])
  | _, _, _ => none
theorem setG_len (b : Int) (n : Nat) : ∀ (m j : Nat) (l : List Int), (setG b n m j l).length = l.length := by
  intro m
  induction m with
  | zero => intro j l; rfl
  | succ m ih => intro j l; rw [setG, ih]; simp
theorem path_len (h a b : Int) : (pathI h a b).1.length ≤ 64 := by
  unfold pathI
  cases hb : bothI h a b != 0 with
  | true => exact Nat.zero_le _
  | false =>
    cases ha : aboveB a b with
    | false => exact Nat.zero_le _
    | true =>
      show (setG b (pathN a b).toNat (pathN a b).toNat 0 (List.replicate (pathN a b).toNat 0)).length ≤ 64
      rw [setG_len, List.length_replicate]
      have hc : (chkI h b != 0) = false := by
        cases hc : chkI h b != 0 with
        | false => rfl
        | true =>
          unfold bothI both at hb
          rw [hc] at hb
          cases h1 : chkI h a != 0 <;> rw [h1] at hb <;> exact absurd hb (by decide)
      obtain ⟨c1, c2, c3⟩ := chk_zero hc
      have c4 := highB_iff.1 c1
      have c5 := lenI_nonneg a
      unfold pathN depI at *
      omega
theorem lenB_path (h a b : Int) : lenB (pathI h a b).1 = true := lenMax (Nat.le_trans (path_len h a b) (by decide))
theorem lenB_nil : lenB [] = true := rfl
theorem atI_lenB (ps : List Subset.D) (t : Subset.D) {sd : List Int} (h : lenB sd = true) : lenB (atI ps t sd).2.1 = true := by
  unfold atI
  cases decide (idxS t ps 0 < 0) <;> first | exact h | exact lenB_nil
theorem entry_lenB (h k i : Int) (s : Subset.D) : lenB (entryI h k i s).2.1 = true := by
  unfold entryI
  cases noEn h k i s with
  | true => exact lenB_nil
  | false =>
  cases (hasI h s i).2 != 0 with
  | true => exact lenB_nil
  | false =>
  cases !(hasI h s i).1 with
  | true => exact lenB_nil
  | false =>
  cases s.2 != 0 with
  | false => exact atI_lenB _ _ lenB_nil
  | true =>
  cases (besI h (leafI h i).1 s.2).2 != 0 with
  | true => exact lenB_nil
  | false =>
  cases (pathI h (fromJ h i s) s.2).2 != 0 with
  | true => exact lenB_nil
  | false => exact atI_lenB _ _ (lenB_path _ _ _)
theorem g319io : GoodS Tryz.prog N319 s319io := by
  refine GoodS.io (callable_of H319 (bd rfl) (by kernel_rfl)) fun a p gs r gs' hw1 hw2 h => ?_
  clear hw1 hw2
  split at h
  · rename_i l h' k i es s1 s2
    simp only [Option.some.injEq, Prod.mk.injEq] at h
    obtain ⟨hs, rfl, rfl⟩ := h
    refine goodIO0 Γ319hok H319 rfl noL2 2 [] (noLoops2 (by kernel_rfl)) (encA K6 (l, h', k, i, es, (s1, s2))) rfl (by show 6 ≤ _; decide) wRow ((r319h l h' k i es (s1, s2)).trans ?_) (fun x hx => by cases hx; decide)
    rw [hs, entry_lenB]
    unfold keyR
    cases hc : checkS l h' k i es != 0 with
    | true => rfl
    | false =>
      cases he : (entryI h' k i (s1, s2)).2.2 != 0 with
      | true => rfl
      | false =>
        rw [entry_inB (l := l) (by simpa using hc) (by simpa using he)]
        unfold fin319h
        cases (bif (keyT l h' k i es (s1, s2)).2.2 != 0 then true else (s1, s2).2 == 0) <;> rfl
  · cases h
/-! ### the law -/
def Γ703 : Orc := orcL 93 [(N308, s308), (N319, s319io), (N706, s706), (N26, s26)]
theorem Γ703ok : OrcOk Tryz.prog Γ703 := OrcOk.toL 93 (.cons g308 (.cons g319io (.cons g706 (.cons g26 (.nil _)))))
abbrev live703 : List (Nat × Dir) := [(0, .keep), (13, .keep), (14, .keep), (16, .keep), (21, .keep), (71, .keep), (72, .keep), (34, .keep), (93, .keep)]
def bumpW (t : Term.D) : Term.D := (IntKind.i64.wrap (t.1 + 1), t.2)
def vs703 (l was m : List Term.D) (up okk : Bool) (n i : Int) : List AV :=
  [.one (.sl false Term none l), .one (.bool up), .one (.hot 34 none), .one (.hot 93 none), .one (.bool okk), .one (.int .i64 n), .one (.int .i64 i), .arr true Term was, .gho (.arr true Term m)]
def Λ703 : Lam AV := fun cur vs K =>
  match cur, vs with
  | 0, [.one (.sl false (.pair (.int .i64) (.pair (.int .i64) (.int .i64))) none l), .one (.bool up), .one (.hot 34 none), .one (.hot 93 none), .one (.bool okk), .one (.int .i64 n), .one (.int .i64 0),
      .arr true (.pair (.int .i64) (.pair (.int .i64) (.int .i64))) was, .gho (.arr true (.pair (.int .i64) (.pair (.int .i64) (.int .i64))) m)] =>
    bif decide (n = m.length) && decide (n ≤ 9223372036854775807) then K (.exit 0) (vs703 l was (m.map bumpW) up okk n n) else none
  | _, _ => none
theorem step703 (l was m : List Term.D) (up okk : Bool) (n i : Int) (K : AE → List AV → Option AV) (fuel : Nat) :
    loopN (aexec tb Γ703 Λ703 ⟨93, 1, [(0, live703)]⟩ (loop1 F703).2 0) 93 1 live703 K (fuel + 1) (vs703 l was m up okk n i) =
    bif decide (i < n) then
      bif inB i m.length then
        bif inB i m.length then loopN (aexec tb Γ703 Λ703 ⟨93, 1, [(0, live703)]⟩ (loop1 F703).2 0) 93 1 live703 K fuel (vs703 l was (m.set i.toNat (bumpW (tAt m i))) up okk n (IntKind.i64.wrap (i + 1)))
        else none
      else none
    else K (.exit 0) (vs703 l was m up okk n i) := by kernel_rfl
theorem bumpW_step (m : List Term.D) (j : Nat) (hj : j < m.length) : m.take j ++ (m.drop j).map bumpW = (m.set j (bumpW (tAt m j))).take (j + 1) ++ ((m.set j (bumpW (tAt m j))).drop (j + 1)).map bumpW := by
  have hA : (m.take j ++ [bumpW (tAt m j)]).length = j + 1 := by simp; omega
  have hs : m.set j (bumpW (tAt m j)) = (m.take j ++ [bumpW (tAt m j)]) ++ m.drop (j + 1) := by
    rw [List.set_eq_take_append_cons_drop, if_pos hj, List.append_assoc]; rfl
  rw [hs, List.take_left' hA, List.drop_left' hA, tAt_drop hj, List.map_cons, List.append_assoc]; rfl
theorem loop703 : LoopP tb Γ703 Λ703 ⟨93, 1, [(0, live703)]⟩ (loop1 F703) := by
  intro vs K out h
  have hcur : (loop1 F703).1 = 0 := by kernel_rfl
  rw [hcur] at h ⊢
  unfold Λ703 at h
  split at h
  · rename_i l up okk n was m _
    cases hc : (decide (n = m.length) && decide (n ≤ 9223372036854775807)) with
    | false => rw [hc] at h; cases h
    | true =>
      rw [hc] at h
      simp only [cond_true] at h
      simp only [Bool.and_eq_true, decide_eq_true_eq] at hc
      obtain ⟨rfl, hmax⟩ := hc
      obtain ⟨N, hN⟩ : ∃ N, N = m.length := ⟨_, rfl⟩
      rw [← hN] at h hmax ⊢
      refine upLoop (α := { m' : List Term.D // m'.length = N }) (n := N) (F := fun fuel m' i => loopN (aexec tb Γ703 Λ703 ⟨93, 1, [(0, live703)]⟩ (loop1 F703).2 0) 93 1 live703 K fuel (vs703 l was m'.1 up okk N i))
        (G := fun j m' => K (.exit 0) (vs703 l was (m'.1.take j ++ (m'.1.drop j).map bumpW) up okk N N)) (fun fuel m' => ?_) (fun m' j hj => ?_) N 0 ⟨m, hN.symm⟩ out (by omega) h
      · obtain ⟨m', hm⟩ := m'
        have e1 : m'.take N = m' := List.take_of_length_le (by omega)
        have e2 : m'.drop N = [] := List.drop_of_length_le (by omega)
        simp only [step703, nlt_dec, cond_false, e1, e2, List.map_nil, List.append_nil]
      · obtain ⟨m', hm⟩ := m'
        have hj' : j < m'.length := by omega
        left; refine ⟨⟨m'.set j (bumpW (tAt m' j)), by simpa using hm⟩, fun fuel => ?_, ?_⟩
        · simp only [step703, lt_dec hj, inB_lt hj', cond_true, Int.toNat_natCast]
          rw [wrap64 (by omega) (by omega)]; rfl
        · simp only [bumpW_step m' j hj']
  · cases h
end Go.AM.Seat
