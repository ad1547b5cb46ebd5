/- The seat: contracts and plain laws, in order (cut out of all texts by a program). -/
import Derived.Test.YtoeijiackpanoaaDoorSl4
set_option linter.unusedVariables false
set_option linter.unusedSimpArgs false
set_option maxRecDepth 100000
namespace Go.AM.Seat
open Go Go.AM Go.Proofs


theorem g379'_true (l : List Term.D) (v : Value.D) : g379' l v = true := by
  unfold g379'
  cases h1 : checkV l v == 0 with
  | false => cases inB v.2.2.2.2 l.length <;> rfl
  | true =>
    cases h2 : v.1 with
    | false => cases inB v.2.2.2.2 l.length <;> cases v.2.1 <;> rfl
    | true => rw [sym_in (eq_of_beq h1) h2]; rfl
def eAt (es : List Entry.D) (i : Int) : Entry.D := es.getD i.toNat Entry.dflt
def sameS (a b : Subset.D) : Bool := a.1 == b.1 && a.2 == b.2
def badE (l : List Term.D) (e0 es : List Entry.D) (ps : List Subset.D) (i : Int) : Bool := bif !(sameS (eAt es i).1 (sAt ps i)) then true else bif !openV l (eAt es i).2 then true else !((eAt es i).2.1 == (eAt e0 0).2.1)
def Λ349 : Lam AV := fun cur vs K =>
  match cur, vs with
  | 0, [.one (.sl false (.pair (.int .i64) (.pair (.int .i64) (.int .i64))) none l), .one (.sl false (.pair (.pair (.int .u64) (.int .u64)) (.pair .bool (.pair .bool (.pair (.pair (.int .u64) (.int .u64)) (.pair (.pair (.pair (.int .u64) (.int .u64)) (.pair (.int .u64) (.int .u64))) (.int .i64)))))) none e0), .one (.int .i64 r),
      .one (.sl true (.pair (.int .u64) (.int .u64)) none ps), .one (.sl false (.pair (.pair (.int .u64) (.int .u64)) (.pair .bool (.pair .bool (.pair (.pair (.int .u64) (.int .u64)) (.pair (.pair (.pair (.int .u64) (.int .u64)) (.pair (.int .u64) (.int .u64))) (.int .i64)))))) none es), .one (.int .i64 n), .one (.int .i64 0)] =>
    bif decide (n = es.length) && decide (es.length = ps.length) && decide (n ≤ 9223372036854775807) && decide (e0.length = es.length) then allK (fun j => K .ret (vs349 l e0 1 ps es n j)) (K (.exit 0) (vs349 l e0 r ps es n n)) (fun j => badE l e0 es ps j) n.toNat 0 else none
  | _, _ => none
def anyK (bad : Nat → Bool) : Nat → Nat → Bool
  | 0, _ => false
  | m + 1, j => bif bad j then true else anyK bad m (j + 1)
theorem allK_two {X E : Option AV} {bad : Nat → Bool} : ∀ (m j : Nat), allK (fun _ => X) E bad m j = bif anyK bad m j then X else E := by
  intro m
  induction m with
  | zero => intro j; rfl
  | succ m ih =>
    intro j
    rw [allK, anyK, ih]
    cases bad j <;> rfl
@[reducible] def C5 : List AK := [.v (.sl Term), .v I, .v I, .v U, .v (.sl Entry)]
def noCk (l : List Term.D) (h k i : Int) (es : List Entry.D) : Bool := bif bif (pairsL h k i).2 != 0 then true else checkL l != 0 then true else (es.length : Int) != (pairsL h k i).1.length
def checkS (l : List Term.D) (h k i : Int) (es : List Entry.D) : Int := bif noCk l h k i es then 1 else bif anyK (fun j => badE l es es (pairsL h k i).1 j) es.length 0 then 1 else 0
def s349 : Sp := .fn C5 fun x => (true, .one (.int .i64 (checkS x.1 x.2.1 x.2.2.1 x.2.2.2.1 x.2.2.2.2)))
def keyT (l : List Term.D) (h k i : Int) (es : List Entry.D) (s : Subset.D) : WS := walkV l (eAt es (entryI h k i s).1).2 (entryI h k i s).2.1
def fin319 (x : WS) (s : Subset.D) : Option AV := bif (bif x.2.2 != 0 then true else s.2 == 0) then some (vle x) else some (vle (partV x.2.1 x.1 2))
def keyR (l : List Term.D) (h k i : Int) (es : List Entry.D) (s : Subset.D) : WS :=
  bif checkS l h k i es != 0 then (zeroV, [], checkS l h k i es) else bif (entryI h k i s).2.2 != 0 then (zeroV, [], (entryI h k i s).2.2) else
  bif (bif (keyT l h k i es s).2.2 != 0 then true else s.2 == 0) then keyT l h k i es s else partV (keyT l h k i es s).2.1 (keyT l h k i es s).1 2
theorem checkS_len {l : List Term.D} {h k i : Int} {es : List Entry.D} (hc : checkS l h k i es = 0) : es.length = (pairsL h k i).1.length ∧ (pairsL h k i).2 = 0 ∧ checkL l = 0 ∧ ∀ j, j < es.length → badE l es es (pairsL h k i).1 j = false := by
  unfold checkS at hc
  cases hn : noCk l h k i es with
  | true => rw [hn] at hc; cases hc
  | false =>
    rw [hn] at hc
    unfold noCk at hn
    cases h1 : (pairsL h k i).2 != 0 with
    | true => rw [h1] at hn; cases hn
    | false =>
      cases h2 : checkL l != 0 with
      | true => rw [h1, h2] at hn; cases hn
      | false =>
        rw [h1, h2] at hn
        simp only [cond_false] at hn hc
        have h3 := bne_eq_false_iff_eq.1 hn
        refine ⟨by exact_mod_cast h3, by simpa using h1, by simpa using h2, fun j hj => ?_⟩
        have key : ∀ (m j0 : Nat) (bad : Nat → Bool), anyK bad m j0 = false → ∀ j, j0 ≤ j → j < j0 + m → bad j = false := by
          intro m
          induction m with
          | zero => intro j0 bad _ j a b; omega
          | succ m ih =>
            intro j0 bad he j a b
            rw [anyK] at he
            cases hb : bad j0 with
            | true => rw [hb] at he; cases he
            | false =>
              rw [hb] at he
              rcases Nat.lt_or_eq_of_le a with h | h
              · exact ih (j0 + 1) bad he j h (by omega)
              · rw [← h]; exact hb
        cases ha : anyK (fun j => badE l es es (pairsL h k i).1 j) es.length 0 with
        | true => rw [ha] at hc; cases hc
        | false => exact key es.length 0 _ ha j (Nat.zero_le j) (by omega)
theorem entry_in {h k i : Int} {s : Subset.D} (he : (entryI h k i s).2.2 = 0) : 0 ≤ (entryI h k i s).1 ∧ (entryI h k i s).1 < (pairsL h k i).1.length := by
  obtain ⟨_, _, h3⟩ := entry_ok he
  rcases h3 with ⟨_, m1, m2⟩ | ⟨_, _, _, m1, m2⟩
  · obtain ⟨a, b, _⟩ := idxS_ok m1
    rw [m2]; exact ⟨a, b⟩
  · obtain ⟨a, b, _⟩ := idxS_ok m1
    rw [m2]; exact ⟨a, b⟩
def last6 (x y : WS) : Bool := bif bif bif bif x.2.2 == 0 then y.2.2 == 0 else false then valEq y.1 x.1 else false then decide ((y.2.1.length : Int) ≥ (x.2.1.length : Int)) else false then checkL y.2.1 == 0 else false
def law6b (h k i : Int) (s : Subset.D) (m : Value.D) (x : WS) : Option AV :=
  bif !(mayI h k s).1 then oB (x.2.2 == 1) else bif (bif (hasI h s i).2 != 0 then true else !(hasI h s i).1) then oB (bif (hasI h s i).2 == 0 then x.2.2 == 4 else false) else
  bif small24 x.2.1.length then oB (last6 x (keyV x.2.1 h k m s)) else none
def law6a (l : List Term.D) (h k i : Int) (s : Subset.D) (m : Value.D) (mk : List Entry.D × List Term.D × Int) : Option AV :=
  bif (bif mk.2.2 != 0 then true else (mayI h k s).2 != 0) then oB true else bif decide (mk.2.1.length ≤ 1000000) then law6b h k i s m (keyR mk.2.1 h k i mk.1 s) else none

theorem mkR_err {h k : Int} {m : Value.D} {ps : List Subset.D} : ∀ (n j : Nat) (l : List Term.D) (es : List Entry.D) (e : Int), (mkR h k m ps n j l es e).1 = true → (mkR h k m ps n j l es e).2.2.2.1 ≠ 0 := by
  intro n
  induction n with
  | zero => intro j l es e hf; cases hf
  | succ n ih =>
    intro j l es e hf
    rw [mkR] at hf ⊢
    cases hx : (mkV l h k m (sAt ps j)).2.2 != 0 with
    | true => simp only [cond_true]; simpa using hx
    | false => rw [hx] at hf; simp only [cond_false] at hf ⊢; exact ih _ _ _ _ hf
theorem pairs_bd8 {h k i : Int} (h8 : h ≤ 8) : (pairsL h k i).1.length ≤ 65 := by
  unfold pairsL
  cases hn : noPr h k i with
  | true => exact Nat.zero_le _
  | false =>
    obtain ⟨h1, h2, _⟩ := many_ok (noPr_ok hn).1
    cases k == 1 with
    | true =>
      show (wG h (leafI h i).1 (h.toNat + 1) 0 []).length ≤ _
      rw [wG_bd]
      simp; omega
    | false =>
      refine Nat.le_trans (outG_bd _ _ _ _ _ _) ?_
      have : h.toNat * h.toNat ≤ 8 * 8 := Nat.mul_le_mul (by omega) (by omega)
      simp; omega
theorem anyK_false {bad : Nat → Bool} : ∀ (m j : Nat), (∀ q, j ≤ q → q < j + m → bad q = false) → anyK bad m j = false := by
  intro m
  induction m with
  | zero => intro j _; rfl
  | succ m ih =>
    intro j h
    rw [anyK, h j (Nat.le_refl j) (by omega), cond_false]
    exact ih (j + 1) fun q h1 h2 => h q (by omega) (by omega)
theorem eAt_nat (es : List Entry.D) (q : Nat) : eAt es (q : Int) = Made.eAt' es q := by unfold eAt Made.eAt'; rw [Int.toNat_natCast]
theorem odd_01 {l : List Int} (h : ∀ x ∈ l, 0 ≤ x ∧ x ≤ 1) : l.any oddB = false := by
  rw [List.any_eq_false]
  intro x hx
  have := h x hx
  have : x = 0 ∨ x = 1 := by omega
  rcases this with rfl | rfl <;> decide
section
variable {sym : Bool} {b : Block.D} {t0 : Nat} {l : List Term.D} {m : Value.D}
theorem Den.startE {p : List Int} {v : Value.D} (h : Den sym b t0 l p v) : startE l v = 0 := congrArg (fun x : WS => x.2.2) h.start
theorem Den.walkV {p : List Int} {v : Value.D} (h : Den sym b t0 l p v) {sd : List Int} (hs : ∀ x ∈ sd, 0 ≤ x ∧ x ≤ 1) (hl : sd.length ≤ 32) (hm : l.length + sd.length ≤ 65536) :
    ∃ v' r, walkV l v sd = (v', l ++ r, 0) ∧ r.length ≤ sd.length ∧ Den sym b t0 (l ++ r) (sd.reverse ++ p) v' := by
  obtain ⟨v', r, a1, a2, a3⟩ := h.walk sd (fun x hx => by have := hs x hx; omega) hm
  refine ⟨v', r, ?_, a2, a3⟩
  unfold Seat.walkV noWalk
  rw [h.startE, h.start, decide_eq_false (show ¬ (sd.length : Int) > 32 by omega), odd_01 hs, a1]
  rfl
theorem check_made {h k i : Int} {es : List Entry.D} (hg : GoodL l) (hp : (pairsL h k i).2 = 0) (hm : Made sym b t0 l h k (pairsL h k i).1 es (pairsL h k i).1.length) : checkS l h k i es = 0 := by
  obtain ⟨h1, h2⟩ := hm
  have hn : noCk l h k i es = false := by
    unfold noCk
    rw [hp, checkL_iff.2 hg, h1]
    simp
  unfold checkS
  rw [hn, cond_false, anyK_false _ _ fun q _ hq => ?_]
  · rfl
  · have hq : q < (pairsL h k i).1.length := by omega
    obtain ⟨v, e, hv⟩ := h2 q hq
    obtain ⟨v0, e0, hv0⟩ := h2 0 (by omega)
    unfold badE
    rw [eAt_nat, e, show eAt es 0 = Made.eAt' es 0 from eAt_nat es 0, e0]
    simp only
    rw [hv.open, hv.facts.2.2.2.1, hv0.facts.2.2.2.1]
    unfold sameS
    simp
theorem path_root {h : Int} {s : Subset.D} (h1 : IntKind.u64.has s.1) (h2 : IntKind.u64.has s.2) (hs : subE h s = 0) : 0 ≤ h ∧ (pathI h 1 s.1).2 = 0 ∧ (s.2 ≠ 0 → (pathI h s.1 s.2).2 = 0) := by
  obtain ⟨a0, a1, a2⟩ := hasU h1
  obtain ⟨b0, b1, b2⟩ := hasU h2
  have hok : okS h.toNat s.1.toNat s.2.toNat = true := by
    rw [subE_nat h1 h2] at hs
    cases ho : okS h.toNat s.1.toNat s.2.toNat with
    | true => rfl
    | false => rw [ho] at hs; cases hs
  obtain ⟨k1, k2⟩ := okS_iff.1 hok
  obtain ⟨o1, o2, o3, o4⟩ := okN_iff.1 k1
  have h0 : 0 ≤ h := by omega
  refine ⟨h0, ?_, fun hz => ?_⟩
  · have q1 : okN h.toNat 1 = true := okN_iff.2 ⟨o1, o2, Nat.le_refl 1, by have := Nat.one_lt_two_pow (n := h.toNat + 1) (by omega); omega⟩
    have q2 : abv 1 s.1.toNat = true := by
      refine abv_iff.2 ⟨by rw [show Nat.log2 1 = 0 by decide]; omega, ?_⟩
      rw [show Nat.log2 1 = 0 by decide, Nat.sub_zero]
      have m1 := log2_le (n := s.1.toNat) (by omega)
      have m2 := lt_log2 (n := s.1.toNat)
      rw [Nat.pow_succ] at m2
      exact Nat.div_eq_of_lt_le (by omega) (by omega)
    have := path_nat q1 k1 q2
    rw [show ((h.toNat : Nat) : Int) = h by omega, ← a2] at this
    rw [show (1 : Int) = ((1 : Nat) : Int) from rfl, this]
  · obtain ⟨j1, j2, j3⟩ := k2.resolve_left (fun e => hz (by rw [b2, e]; rfl))
    have := path_nat k1 j1 j2
    rw [show ((h.toNat : Nat) : Int) = h by omega, ← a2, ← b2] at this
    rw [this]
/-- What label.Key comes to, where the key is known. -/
theorem last_true {h k : Int} {s : Subset.D} {v : Value.D} (hm : mayI h k s = (true, 0)) (h1 : IntKind.u64.has s.1) (h2 : IntKind.u64.has s.2) (h8 : h ≤ 8) (hl : l.length ≤ 60000) (hd : Den sym b t0 l [] m) (hv : Den sym b t0 l (keyP h k s).reverse v) :
    last6 (v, l, 0) (keyV l h k m s) = true := by
  obtain ⟨p0, p1, p2⟩ := path_root h1 h2 (may_sub hm).1
  have hn : noKey l h k m s = false := by
    unfold noKey
    rw [hd.startE, hm]; rfl
  obtain ⟨v', r, a1, a2, a3⟩ := keyV_run hd (by omega) hn p1 p2
  have e := (hv.mono a3.good).uniq a3
  unfold last6
  rw [a1, ← e, valEq_iff.2 rfl, checkL_iff.2 a3.good]
  have : decide (((l ++ r).length : Int) ≥ (l.length : Int)) = true := decide_eq_true (by rw [List.length_append]; omega)
  simp only [this]
  rfl
theorem right_true {h k i : Int} {s : Subset.D} (hd : Den sym b t0 l [] m) (hl : l.length ≤ 1) (h8 : h ≤ 8) (h1 : IntKind.u64.has s.1) (h2 : IntKind.u64.has s.2) (hi : IntKind.u64.has i) : law6a l h k i s m (makeV l h k m i) = oB true := by
  unfold law6a
  rcases Classical.em ((makeV l h k m i).2.2 = 0) with hz | hz
  case inr => rw [show ((makeV l h k m i).2.2 != 0) = true by simpa using hz]; rfl
  rcases Classical.em ((mayI h k s).2 = 0) with hy | hy
  case inr => rw [hz, show ((mayI h k s).2 != 0) = true by simpa using hy]; rfl
  rw [hz, hy]
  simp only [bne_self_eq_false, cond_false]
  have hw0 : walkV l m [] = (m, l, 0) := by
    obtain ⟨v', r, a1, a2, a3⟩ := hd.walkV (sd := []) (fun x hx => by cases hx) (by simp) (by simp; omega)
    have : r = [] := by simpa using a2
    subst this
    rw [List.append_nil] at a1 a3
    rw [a1, ← hd.uniq a3]
  have hmk : noMk l h k m i = false ∧ (mkX l h k m i).1 = false := by
    unfold makeV at hz
    cases hn : noMk l h k m i with
    | true => rw [hn] at hz; exact absurd (show (1 : Int) = 0 from hz) (by decide)
    | false =>
      rw [hn] at hz
      refine ⟨rfl, ?_⟩
      cases hx : (mkX l h k m i).1 with
      | false => rfl
      | true => rw [hx] at hz; exact absurd hz (mkR_err _ _ _ _ _ hx)
  have hp : (pairsL h k i).2 = 0 := by
    have := hmk.1
    unfold noMk at this
    cases hq : (pairsL h k i).2 != 0 with
    | true => rw [hq] at this; cases this
    | false => simpa using hq
  have hn : noPr h k i = false := by
    cases hn : noPr h k i with
    | false => rfl
    | true => unfold pairsL at hp; rw [hn] at hp; exact absurd (show (1 : Int) = 0 from hp) (by decide)
  obtain ⟨nm, nl⟩ := noPr_ok hn
  obtain ⟨b1, b2, b3, _, _⟩ := many_ok nm
  have hpl := pairs_bd8 (h := h) (k := k) (i := i) h8
  have hemk : makeV l h k m i = ((mkX l h k m i).2.2.1, (mkX l h k m i).2.1, 0) := by unfold makeV; rw [hmk.1, hmk.2]; rfl
  obtain ⟨r, c1, c2, c3, c4⟩ := mkR_run (m := m) (h := h) (k := k) (ps := (pairsL h k i).1) (pairsL h k i).1.length 0 l (List.replicate (pairsL h k i).1.length Entry.dflt) 0 hd (by
      have : (pairsL h k i).1.length * (2 * h.toNat + 2) ≤ 65 * 18 := Nat.mul_le_mul hpl (by omega)
      omega) (by omega) ⟨by simp, fun q hq => absurd hq (Nat.not_lt_zero q)⟩ (by
      have := hmk.2
      unfold mkX at this
      rw [hw0, Int.toNat_natCast, hp] at this
      exact this)
  have hX : mkX l h k m i = mkR h k m (pairsL h k i).1 (pairsL h k i).1.length 0 l (List.replicate (pairsL h k i).1.length Entry.dflt) 0 := by
    unfold mkX; rw [hw0, Int.toNat_natCast, hp]
  rw [hemk, hX, c1]
  generalize (mkR h k m (pairsL h k i).1 (pairsL h k i).1.length 0 l (List.replicate (pairsL h k i).1.length Entry.dflt) 0).2.2.1 = es at c4
  have hr : r.length ≤ 1170 := Nat.le_trans c2 (by
    have : (pairsL h k i).1.length * (2 * h.toNat + 2) ≤ 65 * 18 := Nat.mul_le_mul hpl (by omega)
    omega)
  have hd' := hd.mono c3
  have hol : (l ++ r).length ≤ 1171 := by rw [List.length_append]; omega
  generalize l ++ r = own at *
  rw [decide_eq_true (show own.length ≤ 1000000 by omega), cond_true]
  have hck := check_made c3 hp c4
  have hx : keyR own h k i es s = bif (entryI h k i s).2.2 != 0 then (zeroV, [], (entryI h k i s).2.2) else
      bif (bif (keyT own h k i es s).2.2 != 0 then true else s.2 == 0) then keyT own h k i es s else partV (keyT own h k i es s).2.1 (keyT own h k i es s).1 2 := by
    unfold keyR; rw [hck]; rfl
  unfold law6b
  have hnE : ∀ c, (mayI h k s).1 = c → noEn h k i s = !c := by
    intro c hc
    unfold noEn
    rw [hp, nl, hy, hc]; rfl
  cases hm1 : (mayI h k s).1 with
  | false =>
    have he : entryI h k i s = (0, [], 1) := by unfold entryI; rw [hnE _ hm1]; rfl
    rw [hx, he]; rfl
  | true =>
    have hm : mayI h k s = (true, 0) := Prod.ext hm1 hy
    simp only [Bool.not_true, cond_false]
    have hsub := (may_sub hm).1
    have hh2 : (hasI h s i).2 = 0 := by
      obtain ⟨cc0, cc1, _⟩ := hasU hi
      have hlo : leafOk h.toNat i.toNat = true := by rw [leaf_ne cc0 cc1] at nl; simpa using nl
      have hok : okS h.toNat s.1.toNat s.2.toNat = true := by
        rw [subE_nat h1 h2] at hsub
        cases ho : okS h.toNat s.1.toNat s.2.toNat with
        | true => rfl
        | false => rw [ho] at hsub; cases hsub
      rw [has_nat h1 h2 hi, hok, hlo]; rfl
    rw [hh2]
    simp only [bne_self_eq_false, cond_false, beq_self_eq_true, cond_true]
    have hne := hnE _ hm1
    cases hh1 : (hasI h s i).1 with
    | false =>
      have he : entryI h k i s = (0, [], 4) := by unfold entryI; rw [hne, hh2, hh1]; rfl
      rw [hx, he]; rfl
    | true =>
      have hh : hasI h s i = (true, 0) := Prod.ext hh1 hh2
      simp only [Bool.not_true, cond_false]
      -- it is enough to tell what comes of walk.Key
      have fin : ∀ (v : Value.D) (own' : List Term.D), own'.length ≤ 60000 → keyR own h k i es s = (v, own', 0) → Den sym b t0 own' [] m → Den sym b t0 own' (keyP h k s).reverse v →
          (bif small24 (keyR own h k i es s).2.1.length then oB (last6 (keyR own h k i es s) (keyV (keyR own h k i es s).2.1 h k m s)) else none) = oB true := by
        intro v own' hlo e d1 d2
        rw [e]
        simp only
        rw [small_le (show own'.length ≤ 1000000 by omega), last_true hm h1 h2 h8 hlo d1 d2]; rfl
      rcases Classical.em (s.2 = 0) with hs | hs
      · have hmem := from_zero h1 h2 hi hn hm hh hs
        have hidx := idxS_mem (Int.le_refl 0) hmem
        obtain ⟨q1, q2, q3, q4⟩ := idxS_ok hidx
        have he : entryI h k i s = (idxS s (pairsL h k i).1 0, [], 0) := by
          unfold entryI
          rw [hne, hh2, hh1, hs]
          unfold atI
          rw [decide_eq_false hidx]; rfl
        obtain ⟨Q, hQ⟩ := Int.eq_ofNat_of_zero_le q1
        rw [hQ] at q2 q3 he
        obtain ⟨v, e, hv⟩ := c4.2 Q (by omega)
        rw [q3] at e hv
        have hkT : keyT own h k i es s = (v, own, 0) := by
          unfold keyT
          rw [he]
          simp only
          rw [eAt_nat, e]
          obtain ⟨v', r', a1, a2, a3⟩ := hv.walkV (sd := []) (fun x hx => by cases hx) (by simp) (by simp; omega)
          have : r' = [] := by simpa using a2
          subst this
          rw [List.append_nil] at a1 a3
          rw [a1, ← hv.uniq a3]
        refine fin v own (by omega) ?_ hd' ?_
        · rw [hx, he, hkT, hs]; rfl
        · have : mkP h k s = keyP h k s := by unfold mkP; rw [hs]; rfl
          rw [← this]; exact hv
      · obtain ⟨hk, f1, f2, f3, f4, f5⟩ := from_ok h1 h2 hi hn hm hh hs
        have hidx := idxS_mem (Int.le_refl 0) f3
        obtain ⟨q1, q2, q3, q4⟩ := idxS_ok hidx
        have he : entryI h k i s = (idxS (s.1, fromJ h i s) (pairsL h k i).1 0, (pathI h (fromJ h i s) s.2).1, 0) := by
          unfold entryI
          rw [hne, hh2, hh1, show (s.2 != 0) = true by simpa using hs, f1, f2]
          unfold atI
          rw [decide_eq_false hidx]; rfl
        obtain ⟨Q, hQ⟩ := Int.eq_ofNat_of_zero_le q1
        rw [hQ] at q2 q3 he
        obtain ⟨v, e, hv⟩ := c4.2 Q (by omega)
        rw [q3] at e hv
        have hpl2 := path_lenH h (fromJ h i s) s.2
        obtain ⟨v1, r1, a1, a2, a3⟩ := hv.walkV (sd := (pathI h (fromJ h i s) s.2).1) (path_01 _ _ _) (by omega) (by omega)
        obtain ⟨v2, r2, d1, d2, d3⟩ := a3.step (by rw [List.length_append]; omega) (i := 2) (by decide) (by decide)
        have hkT : keyT own h k i es s = (v1, own ++ r1, 0) := by
          unfold keyT
          rw [he]
          simp only
          rw [eAt_nat, e]
          exact a1
        have hway : (2 : Int) :: ((pathI h (fromJ h i s) s.2).1.reverse ++ (mkP h k (s.1, fromJ h i s)).reverse) = (keyP h k s).reverse := by
          unfold mkP keyP labP
          rw [show ((s.1, fromJ h i s).2 == 0) = false by simpa using f4, show ((s.1, fromJ h i s).2 != 0) = true by simpa using f4, show (s.2 != 0) = true by simpa using hs, show (k != 1) = true by simpa using hk, ← f5]
          simp
        rw [hway] at d3
        have hdo := (hd'.mono a3.good).mono d3.good
        refine fin v2 (own ++ r1 ++ r2) (by rw [List.length_append, List.length_append]; omega) ?_ hdo d3
        rw [hx, he, hkT]
        simp only [bne_self_eq_false, cond_false]
        rw [show (s.2 == 0) = false by simpa using hs]
        exact d1
end

theorem outG_len (h k leaf : Int) : ∀ (m t : Nat) (out : List (Int × Int)), (outG h k leaf m t out).length ≤ out.length + m * h.toNat := by
  intro m
  induction m with
  | zero => intro t out; simp [outG]
  | succ m ih =>
    intro t out
    refine Nat.le_trans (ih _ _) ?_
    have := inG_len h k leaf t (h.toNat - t) (t + 1) out
    rw [Nat.succ_mul]
    omega
theorem wG_len (h leaf : Int) : ∀ (m j : Nat) (out : List (Int × Int)), (wG h leaf m j out).length = out.length + m := by
  intro m
  induction m with
  | zero => intro j out; rfl
  | succ m ih => intro j out; rw [wG, ih]; simp; omega
theorem pairs_len (h k i : Int) : (pairsL h k i).1.length ≤ 9223372036854775807 := by
  unfold pairsL
  cases hn : noPr h k i with
  | true => exact Nat.zero_le _
  | false =>
    obtain ⟨h1, h2, _⟩ := many_ok (noPr_ok hn).1
    cases k == 1 with
    | true =>
      show (wG h (leafI h i).1 (h.toNat + 1) 0 []).length ≤ _
      rw [wG_len]
      have : h.toNat ≤ 32 := by omega
      simp; omega
    | false =>
      refine Nat.le_trans (outG_len _ _ _ _ _ _) ?_
      have : h.toNat * h.toNat ≤ 32 * 32 := Nat.mul_le_mul (by omega) (by omega)
      simp; omega
def conj15 (x : Int × List Int × Int) (y : Int × Int) : Bool := bif bif bif bif x.1 == x.1 then sameI x.2.1 x.2.1 else false then x.2.2 == x.2.2 else false then y.1 == y.1 else false then y.2 == y.2 else false
theorem conj15_true (x : Int × List Int × Int) (y : Int × Int) : conj15 x y = true := by
  unfold conj15
  rw [show sameI x.2.1 x.2.1 = true from decide_eq_true rfl]
  simp
abbrev live530 : List (Nat × Dir) := [(0, .keep), (1, .keep), (4, .keep), (12, .keep), (13, .keep)]
def vs530 (a b : List Term.D) (r : Bool) (n i : Int) : List AV :=
  [.one (.sl false Term none a), .one (.sl false Term none b), .one (.bool r), .one (.int .i64 n), .one (.int .i64 i)]
def Λ530 : Lam AV := fun cur vs K =>
  match cur, vs with
  | 0, [.one (.sl false (.pair (.int .i64) (.pair (.int .i64) (.int .i64))) none a), .one (.sl false (.pair (.int .i64) (.pair (.int .i64) (.int .i64))) none b), .one (.bool false), .one (.int .i64 n), .one (.int .i64 0)] =>
    bif decide (n = a.length) && decide (n ≤ 9223372036854775807) && decide (a.length = b.length) then
      bif eqGo a b then K (.exit 0) (vs530 a b false n n) else K .ret (vs530 a b false n (eqAt a b 0))
    else none
  | _, _ => none
def s530 : Sp := .fn [.v (.sl Term), .v (.sl Term)] fun x => (true, .one (.bool (sameL x.1 x.2)))
def s516 : Sp := .fn [.v (.sl Term), .v (.sl Term)] fun x => (true, .one (.bool (sameL x.1 x.2)))
end Go.AM.Seat
