/- The seat: contracts: stores looked at; keys out of stores. -/
import Derived.Test.YtoeijiackpanoaaSeL5
import Derived.Test.YtoeijiackpanoaaSeFirst
import Derived.Test.YtoeijiackpanoaaPlSides
set_option linter.unusedVariables false
set_option maxRecDepth 100000
set_option linter.unusedSimpArgs false
namespace Go.AM.Seat
open Go Go.AM Go.Proofs

theorem g379'_true (l : List Term.D) (v : Value.D) : g379' l v = true := by
  unfold g379'
  cases h1 : checkV l v == 0 with
  | false => cases inB v.2.2.2.2 l.length <;> rfl
  | true =>
    cases h2 : v.1 with
    | false => cases inB v.2.2.2.2 l.length <;> cases v.2.1 <;> rfl
    | true => rw [sym_in (eq_of_beq h1) h2]; rfl
theorem g379 : GoodS Try.prog N379 s379 := by
  refine good (.cons g19 (.nil _)) H379 rfl (by kernel_rfl) noL [] (noLoops (by kernel_rfl)) [.v (.sl Term), .v Value] (by decide) [] _ fun x r hw e => ?_
  obtain ⟨l, v⟩ := x
  cases e
  rw [r379, g379'_true]; rfl
def eAt (es : List Entry.D) (i : Int) : Entry.D := es.getD i.toNat Entry.dflt
def sameS (a b : Subset.D) : Bool := a.1 == b.1 && a.2 == b.2
noncomputable abbrev lp349 (Λ : Lam AV) (K : AE → List AV → Option AV) (fuel : Nat) (vs : List AV) : Option AV := loopN (aexec tb Γ349 Λ ⟨69, 0, [(0, live349)]⟩ (loopK F349 0).2 0) 69 0 live349 K fuel vs
theorem step349 (l : List Term.D) (e0 : List Entry.D) (r : Int) (ps : List Subset.D) (es : List Entry.D) (n i : Int) (Λ : Lam AV) (fuel : Nat) (K : AE → List AV → Option AV) : lp349 Λ K (fuel + 1) (vs349 l e0 r ps es n i) =
    bif decide (i < n) then bif inB i es.length then bif inB i ps.length then
      bif !(sameS (eAt es i).1 (sAt ps i)) then K .ret (vs349 l e0 1 ps es n i) else bif !openB l (eAt es i).2 then K .ret (vs349 l e0 1 ps es n i) else
      bif inB 0 e0.length then bif !((eAt es i).2.1 == (eAt e0 0).2.1) then K .ret (vs349 l e0 1 ps es n i) else lp349 Λ K fuel (vs349 l e0 r ps es n (IntKind.i64.wrap (i + 1))) else none
    else none else none else K (.exit 0) (vs349 l e0 r ps es n i) := by kernel_rfl
def badE (l : List Term.D) (e0 es : List Entry.D) (ps : List Subset.D) (i : Int) : Bool := bif !(sameS (eAt es i).1 (sAt ps i)) then true else bif !openB l (eAt es i).2 then true else !((eAt es i).2.1 == (eAt e0 0).2.1)
def Λ349 : Lam AV := fun cur vs K =>
  match cur, vs with
  | 0, [.one (.sl false (.pair (.int .i64) (.pair (.int .i64) (.int .i64))) none l), .one (.sl false (.pair (.pair (.int .u64) (.int .u64)) (.pair .bool (.pair .bool (.pair (.pair (.int .u64) (.int .u64)) (.pair (.pair (.pair (.int .u64) (.int .u64)) (.pair (.int .u64) (.int .u64))) (.int .i64)))))) none e0), .one (.int .i64 r),
      .one (.sl true (.pair (.int .u64) (.int .u64)) none ps), .one (.sl false (.pair (.pair (.int .u64) (.int .u64)) (.pair .bool (.pair .bool (.pair (.pair (.int .u64) (.int .u64)) (.pair (.pair (.pair (.int .u64) (.int .u64)) (.pair (.int .u64) (.int .u64))) (.int .i64)))))) none es), .one (.int .i64 n), .one (.int .i64 0)] =>
    bif decide (n = es.length) && decide (es.length = ps.length) && decide (n ≤ 9223372036854775807) && decide (e0.length = es.length) then allK (fun j => K .ret (vs349 l e0 1 ps es n j)) (K (.exit 0) (vs349 l e0 r ps es n n)) (fun j => badE l e0 es ps j) n.toNat 0 else none
  | _, _ => none
theorem loop349 : LoopP tb Γ349 Λ349 ⟨69, 0, [(0, live349)]⟩ (loopK F349 0) := by
  intro vs K out e
  have hcur : (loopK F349 0).1 = 0 := by kernel_rfl
  rw [hcur] at e ⊢
  unfold Λ349 at e
  split at e
  · rename_i l e0 r ps es n _
    cases hc : (decide (n = es.length) && decide (es.length = ps.length) && decide (n ≤ 9223372036854775807) && decide (e0.length = es.length)) with
    | false => rw [hc] at e; cases e
    | true =>
      rw [hc] at e
      simp only [cond_true] at e
      simp only [Bool.and_eq_true, decide_eq_true_eq] at hc
      obtain ⟨⟨⟨rfl, hl⟩, hmax⟩, he0⟩ := hc
      refine upLoop (α := Unit) (n := es.length) (F := fun fuel _ j => lp349 Λ349 K fuel (vs349 l e0 r ps es es.length j))
        (G := fun j _ => allK (fun j => K .ret (vs349 l e0 1 ps es es.length j)) (K (.exit 0) (vs349 l e0 r ps es es.length es.length)) (fun j => badE l e0 es ps j) (es.length - j) j)
        (fun fuel _ => ?_) (fun _ j hj => ?_) es.length 0 () out (by omega) e
      · simp only [step349, nlt_dec, cond_false, Nat.sub_self, allK]
      · have hm : es.length - j = (es.length - (j + 1)) + 1 := by omega
        have h0 : inB 0 e0.length = true := inB_lt (j := 0) (by omega)
        have hstep : ∀ fuel, lp349 Λ349 K (fuel + 1) (vs349 l e0 r ps es es.length j) = bif badE l e0 es ps j then K .ret (vs349 l e0 1 ps es es.length j) else lp349 Λ349 K fuel (vs349 l e0 r ps es es.length ((j + 1 : Nat) : Int)) := by
          intro fuel
          rw [step349, lt_dec hj, inB_lt hj, inB_lt (show j < ps.length by omega), h0, wrap64 (n := (j : Int) + 1) (by omega) (by omega)]
          unfold badE
          cases sameS (eAt es (j : Int)).1 (sAt ps (j : Int)) <;> cases openB l (eAt es (j : Int)).2 <;> rfl
        cases hx : badE l e0 es ps j with
        | true => right; intro fuel; rw [hstep, hx]; simp only [hm, allK, hx, cond_true]
        | false =>
          left; refine ⟨(), fun fuel => ?_, ?_⟩
          · rw [hstep, hx]; rfl
          · simp only [hm, allK, hx, cond_false]
  · cases e
def anyK (bad : Nat → Bool) : Nat → Nat → Bool
  | 0, _ => false
  | m + 1, j => bif bad j then true else anyK bad m (j + 1)
theorem allK_two {X E : Option AV} {bad : Nat → Bool} : ∀ (m j : Nat), allK (fun _ => X) E bad m j = bif anyK bad m j then X else E := by
  intro m
  induction m with
  | zero => intro j; rfl
  | succ m ih =>
    intro j
    rw [allK, anyK, ih]
    cases bad j <;> rfl
@[reducible] def C5 : List AK := [.v (.sl Term), .v I, .v I, .v U, .v (.sl Entry)]
def noCk (l : List Term.D) (h k i : Int) (es : List Entry.D) : Bool := bif bif (pairsL h k i).2 != 0 then true else checkL l != 0 then true else (es.length : Int) != (pairsL h k i).1.length
theorem r349 (l : List Term.D) (h k i : Int) (es : List Entry.D) : run Γ349 Λ349 [(0, live349)] F349 (encA C5 (l, h, k, i, es)) [] =
    bif noCk l h k i es then some (.one (.int .i64 1)) else
    bif decide ((es.length : Int) = es.length) && decide (es.length = (pairsL h k i).1.length) && decide ((es.length : Int) ≤ 9223372036854775807) && decide (es.length = es.length) then
      allK (fun _ => some (.one (.int .i64 1))) (some (.one (.int .i64 0))) (fun j => badE l es es (pairsL h k i).1 j) (es.length : Int).toNat 0 else none := by kernel_rfl
def checkS (l : List Term.D) (h k i : Int) (es : List Entry.D) : Int := bif noCk l h k i es then 1 else bif anyK (fun j => badE l es es (pairsL h k i).1 j) es.length 0 then 1 else 0
def s349 : Sp := .fn C5 fun x => (true, .one (.int .i64 (checkS x.1 x.2.1 x.2.2.1 x.2.2.2.1 x.2.2.2.2)))
theorem g349 : GoodS Try.prog N349 s349 := by
  refine good (.cons g310 (.cons g49 (.cons g379 (.nil _)))) H349 rfl (by kernel_rfl) Λ349 [(0, live349)] (oneLoop (p0 := loopK F349 0) (by kernel_rfl) loop349) C5 (by decide) [] _ fun x r hw e => ?_
  obtain ⟨l, h, k, i, es⟩ := x
  cases e
  refine (r349 l h k i es).trans ?_
  show _ = some (AV.one (SV.int .i64 (checkS l h k i es)))
  unfold checkS
  cases hn : noCk l h k i es with
  | true => rfl
  | false =>
    have hl : es.length = (pairsL h k i).1.length := by
      unfold noCk at hn
      cases h1 : (pairsL h k i).2 != 0 with
      | true => rw [h1] at hn; cases hn
      | false =>
        cases h2 : checkL l != 0 with
        | true => rw [h1, h2] at hn; cases hn
        | false =>
          rw [h1, h2] at hn
          simp only [cond_false] at hn
          have := (show (((es.length : Int) != ((pairsL h k i).1.length : Int)) = false) from hn)
          have := (bne_eq_false_iff_eq.1 this)
          exact_mod_cast this
    have hmx : es.length ≤ 9223372036854775807 := hw.2.2.2.2.1
    have hg : (decide ((es.length : Int) = es.length) && decide (es.length = (pairsL h k i).1.length) && decide ((es.length : Int) ≤ 9223372036854775807) && decide (es.length = es.length)) = true := by
      rw [decide_eq_true (show (es.length : Int) = es.length from rfl), decide_eq_true hl, decide_eq_true (show (es.length : Int) ≤ 9223372036854775807 by omega), decide_eq_true (show es.length = es.length from rfl)]; rfl
    rw [hg, allK_two, Int.toNat_natCast]
    simp only [cond_true, cond_false]
    cases anyK (fun j => badE l es es (pairsL h k i).1 j) es.length 0 <;> rfl

/-! ### walk.Key -/
@[reducible] def K6 : List AK := [.v (.sl Term), .v I, .v I, .v U, .v (.sl Entry), .v Subset]
def Γ319 : Orc := orc [(N349, s349), (N309, s309), (N346, s346), (N22, s22)]
def keyT (l : List Term.D) (h k i : Int) (es : List Entry.D) (s : Subset.D) : WS := walkV l (eAt es (entryI h k i s).1).2 (entryI h k i s).2.1
def fin319 (x : WS) (s : Subset.D) : Option AV := bif (bif x.2.2 != 0 then true else s.2 == 0) then some (vle x) else some (vle (partV x.2.1 x.1 2))
theorem r319 (l : List Term.D) (h k i : Int) (es : List Entry.D) (s : Subset.D) : run Γ319 noL [] F319 (encA K6 (l, h, k, i, es, s)) wVle =
    bif checkS l h k i es != 0 then some (vle (zeroV, [], checkS l h k i es)) else bif (entryI h k i s).2.2 != 0 then some (vle (zeroV, [], (entryI h k i s).2.2)) else
    bif inB (entryI h k i s).1 es.length then bif small24 l.length then fin319 (keyT l h k i es s) s else none else none := by kernel_rfl
def keyR (l : List Term.D) (h k i : Int) (es : List Entry.D) (s : Subset.D) : WS :=
  bif checkS l h k i es != 0 then (zeroV, [], checkS l h k i es) else bif (entryI h k i s).2.2 != 0 then (zeroV, [], (entryI h k i s).2.2) else
  bif (bif (keyT l h k i es s).2.2 != 0 then true else s.2 == 0) then keyT l h k i es s else partV (keyT l h k i es s).2.1 (keyT l h k i es s).1 2
def s319 : Sp := .fn K6 fun x => (decide (x.1.length ≤ 1000000), vle (keyR x.1 x.2.1 x.2.2.1 x.2.2.2.1 x.2.2.2.2.1 x.2.2.2.2.2))
theorem checkS_len {l : List Term.D} {h k i : Int} {es : List Entry.D} (hc : checkS l h k i es = 0) : es.length = (pairsL h k i).1.length ∧ (pairsL h k i).2 = 0 ∧ checkL l = 0 ∧ ∀ j, j < es.length → badE l es es (pairsL h k i).1 j = false := by
  unfold checkS at hc
  cases hn : noCk l h k i es with
  | true => rw [hn] at hc; cases hc
  | false =>
    rw [hn] at hc
    unfold noCk at hn
    cases h1 : (pairsL h k i).2 != 0 with
    | true => rw [h1] at hn; cases hn
    | false =>
      cases h2 : checkL l != 0 with
      | true => rw [h1, h2] at hn; cases hn
      | false =>
        rw [h1, h2] at hn
        simp only [cond_false] at hn hc
        have h3 := bne_eq_false_iff_eq.1 hn
        refine ⟨by exact_mod_cast h3, by simpa using h1, by simpa using h2, fun j hj => ?_⟩
        have key : ∀ (m j0 : Nat) (bad : Nat → Bool), anyK bad m j0 = false → ∀ j, j0 ≤ j → j < j0 + m → bad j = false := by
          intro m
          induction m with
          | zero => intro j0 bad _ j a b; omega
          | succ m ih =>
            intro j0 bad he j a b
            rw [anyK] at he
            cases hb : bad j0 with
            | true => rw [hb] at he; cases he
            | false =>
              rw [hb] at he
              rcases Nat.lt_or_eq_of_le a with h | h
              · exact ih (j0 + 1) bad he j h (by omega)
              · rw [← h]; exact hb
        cases ha : anyK (fun j => badE l es es (pairsL h k i).1 j) es.length 0 with
        | true => rw [ha] at hc; cases hc
        | false => exact key es.length 0 _ ha j (Nat.zero_le j) (by omega)
theorem entry_in {h k i : Int} {s : Subset.D} (he : (entryI h k i s).2.2 = 0) : 0 ≤ (entryI h k i s).1 ∧ (entryI h k i s).1 < (pairsL h k i).1.length := by
  obtain ⟨_, _, h3⟩ := entry_ok he
  rcases h3 with ⟨_, m1, m2⟩ | ⟨_, _, _, m1, m2⟩
  · obtain ⟨a, b, _⟩ := idxS_ok m1
    rw [m2]; exact ⟨a, b⟩
  · obtain ⟨a, b, _⟩ := idxS_ok m1
    rw [m2]; exact ⟨a, b⟩
theorem g319 : GoodS Try.prog N319 s319 := by
  refine good (.cons g349 (.cons g309 (.cons g346 (.cons g22 (.nil _))))) H319 rfl (by kernel_rfl) noL [] (noLoops (by kernel_rfl)) K6 (by decide) wVle _ fun x r hw e => ?_
  obtain ⟨l, h, k, i, es, s⟩ := x
  have e1 := congrArg Prod.fst e
  have e2 := congrArg Prod.snd e
  simp only [decide_eq_true_eq] at e1
  simp only at e2
  refine (r319 l h k i es s).trans ?_
  rw [small_le e1, ← e2]
  unfold keyR
  cases hc : checkS l h k i es != 0 with
  | true => rfl
  | false =>
    cases he : (entryI h k i s).2.2 != 0 with
    | true => rfl
    | false =>
      obtain ⟨c1, _⟩ := checkS_len (l := l) (h := h) (k := k) (i := i) (es := es) (by simpa using hc)
      obtain ⟨c2, c3⟩ := entry_in (h := h) (k := k) (i := i) (s := s) (by simpa using he)
      have hb : inB (entryI h k i s).1 es.length = true := by
        unfold inB
        rw [decide_eq_true c2, decide_eq_true (by rw [c1]; exact c3)]; rfl
      simp only [cond_false]
      rw [hb]
      unfold fin319
      cases (bif (keyT l h k i es s).2.2 != 0 then true else s.2 == 0) <;> rfl
end Go.AM.Seat
