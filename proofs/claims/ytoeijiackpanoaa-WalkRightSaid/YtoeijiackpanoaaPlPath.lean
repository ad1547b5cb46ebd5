/- Plain: what is walked to stands for its way. -/
import Derived.Test.YtoeijiackpanoaaPlTerm
import Derived.Test.YtoeijiackpanoaaSeL5
import Derived.Test.YtoeijiackpanoaaPlNode2
set_option linter.unusedVariables false
namespace Go.AM.Seat
open Go Go.AM Go.Proofs

/-- The term to which a way (its last step first) leads from the term at t0. -/
def At (l : List Term.D) (t0 : Nat) : List Int → Nat → Prop
  | [], t => t = t0 ∧ ∃ x : Term.D, l[t0]? = some x ∧ x.1 ≠ 5
  | i :: p, t => ∃ u : Nat, At l t0 p u ∧ l[t]? = some (2 + i, (u : Int), 0)
def In02 (p : List Int) : Prop := ∀ x ∈ p, 0 ≤ x ∧ x ≤ 2
theorem At.mono {l : List Term.D} {t0 : Nat} (r : List Term.D) : ∀ {p : List Int} {t : Nat}, At l t0 p t → At (l ++ r) t0 p t := by
  have up : ∀ {t : Nat} {x : Term.D}, l[t]? = some x → (l ++ r)[t]? = some x := fun {t x} h => by
    have := (List.getElem?_eq_some_iff.1 h).1
    rw [List.getElem?_append_left this]; exact h
  intro p
  induction p with
  | nil => rintro t ⟨h1, x, h2, h3⟩; exact ⟨h1, x, up h2, h3⟩
  | cons i p ih => rintro t ⟨u, h1, h2⟩; exact ⟨u, ih h1, up h2⟩
theorem At.get {l : List Term.D} {t0 : Nat} {p : List Int} {t : Nat} (h : At l t0 p t) (hp : In02 p) : ∃ x : Term.D, l[t]? = some x ∧ x.1 ≠ 5 := by
  cases p with
  | nil => obtain ⟨rfl, x, h1, h2⟩ := h; exact ⟨x, h1, h2⟩
  | cons i p =>
    obtain ⟨u, _, h2⟩ := h
    have := hp i (by simp)
    exact ⟨_, h2, by show 2 + i ≠ 5; omega⟩
theorem At.uniq {l : List Term.D} (hg : GoodL l) {t0 : Nat} : ∀ {p : List Int} {t t' : Nat}, At l t0 p t → At l t0 p t' → t = t' := by
  intro p
  induction p with
  | nil => rintro t t' ⟨rfl, _⟩ ⟨rfl, _⟩; rfl
  | cons i p ih =>
    rintro t t' ⟨u, h1, h2⟩ ⟨u', h1', h2'⟩
    obtain rfl := ih h1 h1'
    exact hg.uniq h2 h2'
def foldB (b : Block.D) : List Int → Block.D
  | [] => b
  | i :: p => (partR (foldB b p) i).1
/-- What stands for a way. -/
def Std (sym : Bool) (b : Block.D) (t0 : Nat) (l : List Term.D) (p : List Int) (v : Value.D) : Prop :=
  match sym with
  | true => ∃ t : Nat, v = symV t ∧ At l t0 p t
  | false => v = octV (foldB b p)
structure Den (sym : Bool) (b : Block.D) (t0 : Nat) (l : List Term.D) (p : List Int) (v : Value.D) : Prop where
  good : GoodL l
  way : In02 p
  std : Std sym b t0 l p v
section
variable {sym : Bool} {b : Block.D} {t0 : Nat} {l : List Term.D} {p : List Int} {v w : Value.D}
theorem Den.mono (h : Den sym b t0 l p v) {r : List Term.D} (hg : GoodL (l ++ r)) : Den sym b t0 (l ++ r) p v := by
  obtain ⟨h1, h2, h3⟩ := h
  refine ⟨hg, h2, ?_⟩
  cases sym with
  | true => obtain ⟨t, e, h⟩ := h3; exact ⟨t, e, h.mono r⟩
  | false => exact h3
theorem Den.uniq (h : Den sym b t0 l p v) (h' : Den sym b t0 l p w) : v = w := by
  obtain ⟨h1, h2, h3⟩ := h
  obtain ⟨_, _, h3'⟩ := h'
  cases sym with
  | true => obtain ⟨t, e, h⟩ := h3; obtain ⟨t', e', h'⟩ := h3'; rw [e, e', h.uniq h1 h']
  | false => exact (show v = _ from h3).trans (show w = _ from h3').symm
theorem Den.facts (h : Den sym b t0 l p v) : checkV l v = 0 ∧ ownV l v = false ∧ v.2.1 = false ∧ v.1 = sym ∧ (sym = true → ((tAt l v.2.2.2.2).1 == 5) = false) := by
  obtain ⟨h1, h2, h3⟩ := h
  cases sym with
  | true =>
    obtain ⟨t, rfl, h⟩ := h3
    obtain ⟨x, g1, g2⟩ := h.get h2
    have hlt := (List.getElem?_eq_some_iff.1 g1).1
    have hk : ((tAt l (t : Int)).1 == 5) = false := by rw [tAt_get g1]; simpa using g2
    exact ⟨check_sym h1 (by omega) (by omega), hk, rfl, rfl, fun _ => hk⟩
  | false =>
    obtain rfl : v = octV (foldB b p) := h3
    exact ⟨check_oct h1 _, rfl, rfl, rfl, fun h => by cases h⟩
theorem Den.start (h : Den sym b t0 l p v) : startW l v = (v, l, 0) := by
  obtain ⟨h1, h2, h3, h4, h5⟩ := h.facts
  unfold startW startE b51
  rw [h1, h3, h4]
  cases sym with
  | true => rw [h5 rfl]; rfl
  | false => rfl
theorem Den.open (h : Den sym b t0 l p v) : openB l v = true := by
  obtain ⟨h1, h2, h3, h4, h5⟩ := h.facts
  unfold openB
  rw [h1, h3, h4]
  cases sym with
  | true => unfold bne; rw [h5 rfl]; rfl
  | false => rfl
/-- One step on. -/
theorem Den.step (h : Den sym b t0 l p v) (hl : l.length < 65536) {i : Int} (h0 : 0 ≤ i) (h2 : i ≤ 2) : ∃ v' r, partV l v i = (v', l ++ r, 0) ∧ r.length ≤ 1 ∧ Den sym b t0 (l ++ r) (i :: p) v' := by
  obtain ⟨f1, f2, f3, f4, f5⟩ := h.facts
  obtain ⟨g1, g2, g3⟩ := h
  have hp : In02 (i :: p) := fun x hx => (List.mem_cons.1 hx).elim (fun e => e ▸ ⟨h0, h2⟩) (g2 x)
  have he := partV_may hl f1 f2 h0 h2
  have hb := partBad_false.2 ⟨f1, f2, h0, h2⟩
  unfold partV at he ⊢
  rw [hb] at he ⊢
  simp only [cond_false] at he ⊢
  cases sym with
  | true =>
    obtain ⟨t, rfl, ha⟩ := g3
    have e1 : (symV (t : Int)).1 = true := rfl
    have e2 : IntKind.i64.wrap (2 + i) = 2 + i := wrap64 (by omega) (by omega)
    rw [e1, e2] at he ⊢
    simp only [cond_true] at he ⊢
    obtain ⟨j, r, m1, m2, m3, m4, m5⟩ := madeV_ok he
    have hlen := madeV_len l (2 + i, (t : Int), 0)
    have m1' : madeV l (2 + i, (t : Int), 0) = (symV j, l ++ r, 0) := m1
    rw [m1'] at hlen
    refine ⟨symV j, r, m1, by simpa using hlen, m3, hp, j, rfl, t, ha.mono r, m4⟩
  | false =>
    obtain rfl : v = octV (foldB b p) := g3
    have e1 : (octV (foldB b p)).1 = false := rfl
    rw [e1] at he ⊢
    simp only [cond_false] at he ⊢
    refine ⟨_, [], by rw [List.append_nil, he]; rfl, by simp, by rw [List.append_nil]; exact g1, hp, rfl⟩
/-- A way on. -/
theorem Den.walk : ∀ (sd : List Int) {l : List Term.D} {p : List Int} {v : Value.D}, Den sym b t0 l p v → In02 sd → l.length + sd.length ≤ 65536 →
    ∃ v' r, walkL (v, l, 0) sd = (v', l ++ r, 0) ∧ r.length ≤ sd.length ∧ Den sym b t0 (l ++ r) (sd.reverse ++ p) v' := by
  intro sd
  induction sd with
  | nil => intro l p v h _ _; exact ⟨v, [], by rw [List.append_nil]; rfl, by simp, by rw [List.append_nil]; exact h⟩
  | cons i sd ih =>
    intro l p v h hs hl
    rw [List.length_cons] at hl
    obtain ⟨i0, i2⟩ := hs i (by simp)
    obtain ⟨v1, r1, a1, a2, a3⟩ := h.step (by omega) i0 i2
    obtain ⟨v2, r2, b1, b2, b3⟩ := ih a3 (fun x hx => hs x (by simp [hx])) (by rw [List.length_append]; omega)
    refine ⟨v2, r1 ++ r2, ?_, by rw [List.length_append, List.length_cons]; omega, by rw [List.reverse_cons, List.append_assoc, ← List.append_assoc l]; exact b3⟩
    rw [walkL, ← List.append_assoc, ← b1]
    congr 1
end
/-! ### ways from a node to another -/
theorem bitI_01 (b j : Int) : 0 ≤ bitI b j ∧ bitI b j ≤ 1 := by
  unfold bitI
  have e2 : (BitVec.ofInt 64 (1 : Int)).toNat = 1 := by decide
  rw [BitVec.toNat_and, e2, Nat.and_one_is_mod, wrapU (by omega) (by omega), wrap64 (by omega) (by omega)]
  omega
theorem setG_01 (b : Int) (n : Nat) : ∀ (m j : Nat) (l : List Int), (∀ x ∈ l, 0 ≤ x ∧ x ≤ 1) → ∀ x ∈ setG b n m j l, 0 ≤ x ∧ x ≤ 1 := by
  intro m
  induction m with
  | zero => intro j l h; exact h
  | succ m ih =>
    intro j l h
    refine ih (j + 1) _ fun x hx => ?_
    rcases List.mem_or_eq_of_mem_set hx with hx | rfl
    · exact h x hx
    · exact bitI_01 b j
theorem path_01 (h a b : Int) : ∀ x ∈ (pathI h a b).1, 0 ≤ x ∧ x ≤ 1 := by
  unfold pathI
  cases bothI h a b != 0 with
  | true => intro x hx; cases hx
  | false =>
    cases aboveB a b with
    | false => intro x hx; cases hx
    | true =>
      refine setG_01 _ _ _ _ _ fun x hx => ?_
      rw [(List.mem_replicate.1 hx).2]; omega
theorem path_02 (h a b : Int) : In02 (pathI h a b).1 := fun x hx => by have := path_01 h a b x hx; omega
theorem path_lenH (h a b : Int) : (pathI h a b).1.length ≤ h.toNat := by
  unfold pathI
  cases hb : bothI h a b != 0 with
  | true => exact Nat.zero_le _
  | false =>
    cases ha : aboveB a b with
    | false => exact Nat.zero_le _
    | true =>
      show (setG b (pathN a b).toNat (pathN a b).toNat 0 (List.replicate (pathN a b).toNat 0)).length ≤ _
      rw [setG_len, List.length_replicate]
      have h2 : (chkI h a != 0) = false ∧ (chkI h b != 0) = false := by
        unfold bothI both at hb
        cases h1 : chkI h a != 0 with
        | true => rw [h1] at hb; exact absurd (show true = false from hb) (by decide)
        | false =>
          cases h2 : chkI h b != 0 with
          | true => rw [h1, h2] at hb; exact absurd (show true = false from hb) (by decide)
          | false => exact ⟨rfl, rfl⟩
      obtain ⟨c1, c2, c3⟩ := chk_zero h2.2
      obtain ⟨d1, d2, d3⟩ := chk_zero h2.1
      have e : 0 ≤ depI a := by rw [dep_nat d2]; omega
      unfold pathN
      omega
theorem walkL_err : ∀ (sd : List Int) {x : WS}, x.2.2 ≠ 0 → walkL x sd = x := by
  intro sd
  induction sd with
  | nil => intro x _; rfl
  | cons i sd ih =>
    intro x h
    have : stepW x i = x := by unfold stepW; rw [show (x.2.2 == 0) = false by simpa using h]; rfl
    rw [walkL, this]; exact ih h
theorem walkL_app : ∀ (a c : List Int) (x : WS), walkL x (a ++ c) = walkL (walkL x a) c := by
  intro a
  induction a with
  | nil => intro c x; rfl
  | cons i a ih => intro c x; exact ih c _
theorem pathW_ok {x : WS} {h a b : Int} (he : (pathI h a b).2 = 0) : pathW x h a b = walkL x (pathI h a b).1 := by
  unfold pathW
  cases hx : x.2.2 == 0 with
  | true =>
    rw [he]
    have : x = (x.1, x.2.1, (0 : Int)) := by rw [← eq_of_beq hx]
    rw [cond_true, ← this]
  | false => rfl
theorem pathW_err {x : WS} {h a b : Int} (hx : x.2.2 = 0) (he : (pathW x h a b).2.2 = 0) : (pathI h a b).2 = 0 := by
  unfold pathW at he
  rw [hx] at he
  simp only [beq_self_eq_true, cond_true] at he
  rcases Classical.em ((pathI h a b).2 = 0) with h0 | h0
  · exact h0
  · rw [walkL_err _ (show (x.1, x.2.1, (pathI h a b).2).2.2 ≠ 0 from h0)] at he
    exact he
theorem pathW_stay {x : WS} {h a b : Int} (hx : x.2.2 ≠ 0) : pathW x h a b = x := by
  unfold pathW
  rw [show (x.2.2 == 0) = false by simpa using hx]
  exact walkL_err _ hx
theorem stepW_stay {x : WS} {i : Int} (hx : x.2.2 ≠ 0) : stepW x i = x := by
  unfold stepW; rw [show (x.2.2 == 0) = false by simpa using hx]; rfl
/-- A label's way. -/
def labP (h : Int) (s : Subset.D) : List Int := (pathI h 1 s.1).1 ++ [2] ++ bif s.2 != 0 then (pathI h s.1 s.2).1 else []
theorem labelW_ok {x : WS} {h : Int} {s : Subset.D} (h1 : (pathI h 1 s.1).2 = 0) (h2 : s.2 ≠ 0 → (pathI h s.1 s.2).2 = 0) : labelW x h s = walkL x (labP h s) := by
  unfold labelW labP
  rw [pathW_ok h1]
  cases hs : s.2 != 0 with
  | true =>
    simp only [cond_true]
    rw [pathW_ok (h2 (by simpa using hs)), walkL_app, walkL_app]; rfl
  | false =>
    simp only [cond_false]
    rw [List.append_nil, walkL_app]; rfl
theorem labelW_err {x : WS} {h : Int} {s : Subset.D} (hx : x.2.2 = 0) (he : (labelW x h s).2.2 = 0) : (pathI h 1 s.1).2 = 0 ∧ (s.2 ≠ 0 → (pathI h s.1 s.2).2 = 0) := by
  unfold labelW at he
  have k1 : (stepW (pathW x h 1 s.1) 2).2.2 = 0 := by
    rcases Classical.em ((stepW (pathW x h 1 s.1) 2).2.2 = 0) with h0 | h0
    · exact h0
    · cases hs : s.2 != 0 with
      | true => rw [hs, cond_true, pathW_stay h0] at he; exact he
      | false => rw [hs] at he; exact he
  have k2 : (pathW x h 1 s.1).2.2 = 0 := by
    rcases Classical.em ((pathW x h 1 s.1).2.2 = 0) with h0 | h0
    · exact h0
    · rw [stepW_stay h0] at k1; exact k1
  refine ⟨pathW_err hx k2, fun hs => ?_⟩
  rw [show (s.2 != 0) = true by simpa using hs, cond_true] at he
  exact pathW_err k1 he
theorem endW_err {x : WS} (he : (endW x).2.2 = 0) : x.2.2 = 0 ∧ endW x = x := by
  unfold endW at he ⊢
  cases hx : x.2.2 != 0 with
  | true => rw [hx] at he; simp only [cond_true] at he; exact absurd he (by simpa using hx)
  | false =>
    have : x.2.2 = 0 := by simpa using hx
    exact ⟨this, by rw [← this]; rfl⟩
theorem endW_zero {x : WS} (h : x.2.2 = 0) : endW x = x := by
  unfold endW
  rw [show (x.2.2 != 0) = false by simpa using h, ← h]; rfl
/-- A key's way. -/
def keyP (h k : Int) (s : Subset.D) : List Int := labP h s ++ bif k != 1 then [2] else []
theorem keyP_02 (h k : Int) (s : Subset.D) : In02 (keyP h k s) := by
  intro x hx
  unfold keyP labP at hx
  rcases List.mem_append.1 hx with hx | hx
  · rcases List.mem_append.1 hx with hx | hx
    · rcases List.mem_append.1 hx with hx | hx
      · exact path_02 _ _ _ x hx
      · rw [List.mem_singleton.1 hx]; omega
    · cases hs : s.2 != 0 with
      | true => rw [hs] at hx; exact path_02 _ _ _ x hx
      | false => rw [hs] at hx; cases hx
  · cases hk : k != 1 with
    | true => rw [hk] at hx; rw [List.mem_singleton.1 hx]; omega
    | false => rw [hk] at hx; cases hx
theorem labP_02 (h : Int) (s : Subset.D) : In02 (labP h s) := fun x hx => keyP_02 h 1 s x (by unfold keyP; exact List.mem_append_left _ hx)
theorem labP_len (h : Int) (s : Subset.D) : (labP h s).length ≤ 2 * h.toNat + 1 := by
  have h1 := path_lenH h 1 s.1
  have h2 := path_lenH h s.1 s.2
  unfold labP
  cases s.2 != 0 <;> simp <;> omega
theorem keyP_len (h k : Int) (s : Subset.D) : (keyP h k s).length ≤ 2 * h.toNat + 2 := by
  have h1 := labP_len h s
  unfold keyP
  cases k != 1 <;> simp <;> omega
def mkP (h k : Int) (s : Subset.D) : List Int := bif s.2 == 0 then keyP h k s else labP h s
section
variable {sym : Bool} {b : Block.D} {t0 : Nat} {l : List Term.D} {m : Value.D}
/-- A key of what may be. -/
theorem keyV_run {h k : Int} {s : Subset.D} (hd : Den sym b t0 l [] m) (hl : l.length + (2 * h.toNat + 2) ≤ 65536) (hn : noKey l h k m s = false) (h1 : (pathI h 1 s.1).2 = 0) (h2 : s.2 ≠ 0 → (pathI h s.1 s.2).2 = 0) :
    ∃ v r, keyV l h k m s = (v, l ++ r, 0) ∧ r.length ≤ 2 * h.toNat + 2 ∧ Den sym b t0 (l ++ r) (keyP h k s).reverse v := by
  have hk := keyP_len h k s
  obtain ⟨v, r, a1, a2, a3⟩ := hd.walk (keyP h k s) (keyP_02 h k s) (by omega)
  refine ⟨v, r, ?_, by omega, by rw [List.append_nil] at a3; exact a3⟩
  unfold keyV
  rw [hn, hd.start, labelW_ok h1 h2]
  have e : (bif k != 1 then endW (stepW (walkL (m, l, 0) (labP h s)) 2) else endW (walkL (m, l, 0) (labP h s))) = endW (walkL (m, l, 0) (keyP h k s)) := by
    unfold keyP
    rw [walkL_app]
    cases k != 1 <;> rfl
  rw [cond_false, e, a1]
  rfl
theorem noKey_err {h k : Int} {s : Subset.D} (he : (keyV l h k m s).2.2 = 0) : noKey l h k m s = false := by
  cases hn : noKey l h k m s with
  | false => rfl
  | true => unfold keyV at he; rw [hn] at he; exact absurd (show (1 : Int) = 0 from he) (by decide)
theorem keyV_err {h k : Int} {s : Subset.D} (hd : Den sym b t0 l [] m) (he : (keyV l h k m s).2.2 = 0) : (pathI h 1 s.1).2 = 0 ∧ (s.2 ≠ 0 → (pathI h s.1 s.2).2 = 0) := by
  have hn := noKey_err he
  unfold keyV at he
  rw [hn, hd.start, cond_false] at he
  refine labelW_err (x := (m, l, 0)) rfl ?_
  cases hk : k != 1 with
  | false => rw [hk] at he; exact (endW_err he).1
  | true =>
    rw [hk, cond_true] at he
    have h1 := (endW_err he).1
    rcases Classical.em ((labelW (m, l, 0) h s).2.2 = 0) with h0 | h0
    · exact h0
    · rw [stepW_stay h0] at h1; exact h1
theorem labelV_run {h : Int} {s : Subset.D} (hd : Den sym b t0 l [] m) (hl : l.length + (2 * h.toNat + 2) ≤ 65536) (hn : noLab l h m s = false) (h1 : (pathI h 1 s.1).2 = 0) (h2 : s.2 ≠ 0 → (pathI h s.1 s.2).2 = 0) :
    ∃ v r, labelV l h m s = (v, l ++ r, 0) ∧ r.length ≤ 2 * h.toNat + 2 ∧ Den sym b t0 (l ++ r) (labP h s).reverse v := by
  have hk := labP_len h s
  obtain ⟨v, r, a1, a2, a3⟩ := hd.walk (labP h s) (labP_02 h s) (by omega)
  refine ⟨v, r, ?_, by omega, by rw [List.append_nil] at a3; exact a3⟩
  unfold labelV
  rw [hn, hd.start, labelW_ok h1 h2, cond_false, a1]
  rfl
theorem labelV_err {h : Int} {s : Subset.D} (hd : Den sym b t0 l [] m) (he : (labelV l h m s).2.2 = 0) : noLab l h m s = false ∧ (pathI h 1 s.1).2 = 0 ∧ (s.2 ≠ 0 → (pathI h s.1 s.2).2 = 0) := by
  have hn : noLab l h m s = false := by
    cases hn : noLab l h m s with
    | false => rfl
    | true => unfold labelV at he; rw [hn] at he; exact absurd (show (1 : Int) = 0 from he) (by decide)
  refine ⟨hn, ?_⟩
  unfold labelV at he
  rw [hn, hd.start, cond_false] at he
  exact labelW_err (x := (m, l, 0)) rfl (endW_err he).1
theorem mkV_run {h k : Int} {s : Subset.D} (hd : Den sym b t0 l [] m) (hl : l.length + (2 * h.toNat + 2) ≤ 65536) (he : (mkV l h k m s).2.2 = 0) :
    ∃ v r, mkV l h k m s = (v, l ++ r, 0) ∧ r.length ≤ 2 * h.toNat + 2 ∧ Den sym b t0 (l ++ r) (mkP h k s).reverse v := by
  unfold mkV at he ⊢
  unfold mkP
  cases hs : s.2 == 0 with
  | true =>
    rw [hs] at he
    obtain ⟨e1, e2⟩ := keyV_err hd he
    exact keyV_run hd hl (noKey_err he) e1 e2
  | false =>
    rw [hs] at he
    obtain ⟨e0, e1, e2⟩ := labelV_err hd he
    exact labelV_run hd hl e0 e1 e2
def Made (sym : Bool) (b : Block.D) (t0 : Nat) (l : List Term.D) (h k : Int) (ps : List Subset.D) (es : List Entry.D) (n : Nat) : Prop :=
  es.length = ps.length ∧ ∀ q : Nat, q < n → ∃ v, eAt' es q = (sAt ps q, v) ∧ Den sym b t0 l (mkP h k (sAt ps q)).reverse v
where eAt' (es : List Entry.D) (i : Nat) : Entry.D := es.getD i Entry.dflt
theorem Made.next {r : List Term.D} {h k : Int} {ps : List Subset.D} {es : List Entry.D} {j : Nat} (hm : Made sym b t0 l h k ps es j) (hj : j < ps.length) {v : Value.D} (hd : Den sym b t0 (l ++ r) (mkP h k (sAt ps j)).reverse v) :
    Made sym b t0 (l ++ r) h k ps (set2 (set1 es j (sAt ps j)) j v) (j + 1) := by
  obtain ⟨h1, h2⟩ := hm
  refine ⟨by rw [set_len2, set_len1]; exact h1, fun q hq => ?_⟩
  unfold Made.eAt' set2 set1
  rw [Int.toNat_natCast]
  rcases Nat.lt_or_eq_of_le (Nat.le_of_lt_succ hq) with hlt | rfl
  · obtain ⟨w, e, hw⟩ := h2 q hlt
    refine ⟨w, ?_, hw.mono hd.good⟩
    unfold Made.eAt' at e
    rw [← e]
    simp only [List.getD_eq_getElem?_getD]
    rw [List.getElem?_set_ne (by omega), List.getElem?_set_ne (by omega)]
  · refine ⟨v, ?_, hd⟩
    simp only [List.getD_eq_getElem?_getD]
    rw [List.getElem?_set_self (by rw [List.length_set]; omega), List.getElem?_set_self (by omega)]
    rfl
theorem mkR_run {h k : Int} {ps : List Subset.D} : ∀ (n j : Nat) (l : List Term.D) (es : List Entry.D) (e : Int), Den sym b t0 l [] m → l.length + n * (2 * h.toNat + 2) ≤ 65536 → j + n = ps.length → Made sym b t0 l h k ps es j →
    (mkR h k m ps n j l es e).1 = false → ∃ r, (mkR h k m ps n j l es e).2.1 = l ++ r ∧ r.length ≤ n * (2 * h.toNat + 2) ∧ GoodL (l ++ r) ∧ Made sym b t0 (l ++ r) h k ps (mkR h k m ps n j l es e).2.2.1 ps.length := by
  intro n
  induction n with
  | zero =>
    intro j l es e hd hl hj hm _
    refine ⟨[], by rw [List.append_nil]; rfl, Nat.zero_le _, by rw [List.append_nil]; exact hd.good, ?_⟩
    rw [List.append_nil, ← hj]; exact hm
  | succ n ih =>
    intro j l es e hd hl hj hm hf
    rw [Nat.succ_mul] at hl
    rw [mkR] at hf ⊢
    cases hx : (mkV l h k m (sAt ps j)).2.2 != 0 with
    | true => rw [hx] at hf; cases hf
    | false =>
      rw [hx, cond_false] at hf
      rw [cond_false]
      obtain ⟨v, r1, a1, a2, a3⟩ := mkV_run (h := h) (k := k) (s := sAt ps j) hd (by omega) (by simpa using hx)
      rw [a1] at hf ⊢
      dsimp only at hf ⊢
      generalize 2 * h.toNat + 2 = c at *
      obtain ⟨r2, c1, c2, c3, c4⟩ := ih (j + 1) (l ++ r1) (set2 (set1 es j (sAt ps j)) j v) 0 (hd.mono a3.good) (by rw [List.length_append]; omega) (by omega) (hm.next (by omega) a3) hf
      refine ⟨r1 ++ r2, by rw [← List.append_assoc]; exact c1, by rw [List.length_append, Nat.succ_mul]; omega, by rw [← List.append_assoc]; exact c3, by rw [← List.append_assoc]; exact c4⟩
end
end Go.AM.Seat
