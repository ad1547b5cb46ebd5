/- An abstract machine over the model's own code: calls that write what they are given. -/
import Derived.Test.YtoeijiackpanoaaAmMem2
set_option linter.unusedVariables false
set_option linter.unusedSectionVars false
set_option linter.unusedSimpArgs false
namespace Go.AM

/-! ### Slots named by their places in a list -/
theorem posN_spec : ∀ {L : List Nat} {s i k : Nat}, posN s L i = some k → ∃ j, k = i + j ∧ L[j]? = some s := by
  intro L
  induction L with
  | nil => intro s i k h; cases h
  | cons a L ih =>
    intro s i k h
    simp only [posN] at h
    cases hb : Nat.beq a s with
    | true =>
      rw [hb] at h
      simp only [cond_true, Option.some.injEq] at h
      exact ⟨0, by omega, by simp [Nat.eq_of_beq_eq_true hb]⟩
    | false =>
      rw [hb] at h
      obtain ⟨j, h1, h2⟩ := ih h
      exact ⟨j + 1, by omega, by simpa using h2⟩
def nthN (L : List Nat) (k : Nat) : Nat := L.getD k 0
theorem posN_nth {L : List Nat} {s k : Nat} (h : posN s L 0 = some k) : nthN L k = s := by
  obtain ⟨j, h1, h2⟩ := posN_spec h
  rw [Nat.zero_add] at h1
  subst h1
  simp [nthN, List.getD_eq_getElem?_getD, h2]

section
variable {w : World} {μ ν : Locs} {ok ok' : OK} {ρ : Nat → Option Nat} {wk : Bool}

/-- The change of names, and of what counts as new. -/
structure Ren (μ ν : Locs) (ok ok' : OK) (wk : Bool) (ρ : Nat → Option Nat) : Prop where
  loc : ∀ s k, ρ s = some k → ν k = μ s
  ok : ∀ fr b, ok fr b → ok' (fr && wk) b

theorem rp_mono {w : World} {o o' : Nat → Prop} (h : ∀ b, o b → o' b) {t : Ty} {x : t.D} {off : Nat} {v : Value} (hr : RpRel w o t x off v) : RpRel w o' t x off v := by
  obtain ⟨b, o1, cs, e, h1, h2, h3⟩ := hr
  exact ⟨b, o1, cs, e, h b h1, TRel.mono (fun _ _ => rfl) h h2, h3⟩

theorem enc_ren (hR : Ren μ ν ok ok' wk ρ) : ∀ {t : Ty} {fr : Bool} {x : t.D} {us : List Value}, All2 (SVRel0 w μ ok) (enc t fr x) us → All2 (SVRel0 w ν ok') (enc t (fr && wk) x) us := by
  intro t
  induction t with
  | int k => intro fr x us hh; cases hh with | cons h1 h2 => cases h2; exact .cons h1 .nil
  | bool => intro fr x us hh; cases hh with | cons h1 h2 => cases h2; exact .cons h1 .nil
  | str => intro fr x us hh; cases hh with | cons h1 h2 => cases h2; exact .cons h1 .nil
  | unit => intro fr x us hh; cases hh; exact .nil
  | sl t _ => intro fr x us hh; cases hh with | cons h1 h2 => cases h2; exact .cons ⟨TRel.mono (fun _ _ => rfl) (hR.ok fr) h1.1, h1.2⟩ .nil
  | pair a b iha ihb =>
    intro fr x us hh
    obtain ⟨u, v, rfl, h1, h2⟩ := hh.split
    exact (iha h1).append (ihb h2)
theorem enc_len : ∀ {t : Ty} {x : t.D} (f g : Bool), (enc t f x).length = (enc t g x).length := by
  intro t
  induction t with
  | pair a b iha ihb => intro x f g; simp [enc, iha f g, ihb f g]
  | _ => intro x f g; rfl

theorem renC_rel (hR : Ren μ ν ok ok' wk ρ) {c d : Cap} {v : Value} (h : CapRel w μ ok c v) (he : renC wk ρ c = some d) : CapRel w ν ok' d v := by
  unfold CapRel at *
  cases c with
  | ref s off =>
    simp only [renC] at he
    split at he
    · rename_i k hk
      cases he
      obtain ⟨b, h1, h2⟩ := h
      exact ⟨b, by rw [hR.loc s k hk]; exact h1, h2⟩
    · cases he
  | ptrD fr t x =>
    cases he
    exact rp_mono (hR.ok fr) h
  | valD fr t x =>
    cases he
    simp only [capVal] at *
    split at h
    · rename_i y hy
      have h1 : All2 (SVRel0 w μ ok) (enc t fr x) [v] := by rw [hy]; exact .cons h .nil
      have h2 := enc_ren hR h1
      have hl := enc_len (x := x) fr (fr && wk)
      rw [hy] at hl
      match hz : enc t (fr && wk) x, hl with
      | [z], _ =>
        rw [hz] at h2
        cases h2 with
        | cons h3 _ => exact h3
    · rename_i hn
      obtain ⟨us, e, hh⟩ := h
      have h2 := enc_ren hR hh
      split
      · rename_i z hz
        have hl := enc_len (x := x) fr (fr && wk)
        rw [hz] at hl
        match hq : enc t fr x, hl with
        | [z'], _ => exact absurd hq (hn z')
      · exact ⟨us, e, h2⟩

theorem renCs_rel (hR : Ren μ ν ok ok' wk ρ) : ∀ {cs ds : List Cap} {vs : List Value}, All2 (CapRel w μ ok) cs vs → renCs wk ρ cs = some ds → All2 (CapRel w ν ok') ds vs := by
  intro cs
  induction cs with
  | nil => intro ds vs h he; simp only [renCs, Option.some.injEq] at he; subst he; cases h; exact .nil
  | cons c cs ih =>
    intro ds vs h he
    cases h with
    | cons h1 h2 =>
      simp only [renCs] at he
      split at he
      · rename_i x y e1 e2
        cases he
        exact .cons (renC_rel hR h1 e1) (ih h2 e2)
      · cases he

theorem renS_rel (hR : Ren μ ν ok ok' wk ρ) {x y : SV} {v : Value} (h : SVRel w μ ok x v) (he : renS wk ρ x = some y) : SVRel w ν ok' y v ∧ (y = .junk → x = .junk) := by
  cases x with
  | junk => cases he; exact ⟨h, fun _ => rfl⟩
  | bool b => cases he; exact ⟨h, fun e => by cases e⟩
  | int k n => cases he; exact ⟨h, fun e => by cases e⟩
  | str s => cases he; exact ⟨h, fun e => by cases e⟩
  | nilp => cases he; exact ⟨h, fun e => by cases e⟩
  | nils => cases he; exact ⟨h, fun e => by cases e⟩
  | nilf => cases he; exact ⟨h, fun e => by cases e⟩
  | nilm => cases he; exact ⟨h, fun e => by cases e⟩
  | sm fr kt vt es =>
    cases he
    refine ⟨?_, fun e => by cases e⟩
    rcases (h : SVRel0 w μ ok (.sm fr kt vt es) v) with h | ⟨b, e, hb, h⟩
    · exact .inl h
    · exact .inr ⟨b, e, hR.ok fr b hb, h.mono (fun _ _ => rfl) (hR.ok fr) rfl⟩
  | sl fr t nl xs => cases he; exact ⟨⟨TRel.mono (fun _ _ => rfl) (hR.ok fr) h.1, h.2⟩, fun e => by cases e⟩
  | rp fr t z off => cases he; exact ⟨rp_mono (hR.ok fr) h, fun e => by cases e⟩
  | aptr s base len idx => cases he
  | hptr s sz i off => cases he
  | ptr s off =>
    simp only [renS] at he
    split at he
    · rename_i k hk
      cases he
      obtain ⟨b, h1, h2⟩ := h
      exact ⟨⟨b, by rw [hR.loc s k hk]; exact h1, h2⟩, fun e => by cases e⟩
    · cases he
  | mref s =>
    simp only [renS] at he
    split at he
    · rename_i k hk
      cases he
      obtain ⟨b, h1, h2⟩ := (h : SVRel0 w μ ok (.mref s) v)
      exact ⟨⟨b, by rw [hR.loc s k hk]; exact h1, h2⟩, fun e => by cases e⟩
    · cases he
  | cut s sz lo hi => cases he
  | hot s n =>
    simp only [renS] at he
    split at he
    · rename_i k hk
      cases he
      refine ⟨?_, fun e => by cases e⟩
      show v = slv (ν k) n ∧ (∀ m, n = some m → m ≤ (ν k).len) ∧ (ν k).len ≤ 9223372036854775807
      rw [hR.loc s k hk]; exact h
    · cases he
  | fn f caps =>
    simp only [renS] at he
    split at he
    · rename_i cs hc
      cases he
      obtain ⟨vs, e, hh⟩ := h
      exact ⟨⟨vs, e, renCs_rel hR hh hc⟩, fun e => by cases e⟩
    · cases he

theorem renL_rel (hR : Ren μ ν ok ok' wk ρ) : ∀ {xs ys : List SV} {vs : List Value}, All2 (SVRel w μ ok) xs vs → renL wk ρ xs = some ys → All2 (SVRel w ν ok') ys vs := by
  intro xs
  induction xs with
  | nil => intro ys vs h he; simp only [renL, Option.some.injEq] at he; subst he; cases h; exact .nil
  | cons x xs ih =>
    intro ys vs h he
    cases h with
    | cons h1 h2 =>
      simp only [renL] at he
      split at he
      · rename_i y z e1 e2
        cases he
        exact .cons (renS_rel hR h1 e1).1 (ih h2 e2)
      · cases he
theorem renL_length : ∀ {xs ys : List SV}, renL wk ρ xs = some ys → ys.length = xs.length := by
  intro xs
  induction xs with
  | nil => intro ys he; simp only [renL, Option.some.injEq] at he; subst he; rfl
  | cons x xs ih =>
    intro ys he
    simp only [renL] at he
    split at he
    · rename_i y z e1 e2
      cases he
      simp [ih e2]
    · cases he

theorem renT_rel (hR : Ren μ ν ok ok' wk ρ) : ∀ {xs ys : List (Bool × List SV)} {vs : List Value}, All2 (compRel w μ ok) xs vs → renT wk ρ xs = some ys → All2 (compRel w ν ok') ys vs := by
  intro xs
  induction xs with
  | nil => intro ys vs h he; simp only [renT, Option.some.injEq] at he; subst he; cases h; exact .nil
  | cons x xs ih =>
    intro ys vs h he
    obtain ⟨b, cs⟩ := x
    cases h with
    | cons h1 h2 =>
      simp only [renT] at he
      split at he
      · rename_i y z e1 e2
        cases he
        refine .cons ?_ (ih h2 e2)
        cases b with
        | true => obtain ⟨us, e, hu⟩ := h1; exact ⟨us, e, renL_rel hR hu e1⟩
        | false =>
          obtain ⟨y', e, hy⟩ := h1
          have e : cs = [y'] := e
          subst e
          have h3 := renL_rel hR (.cons hy .nil) e1
          cases h3 with
          | cons h4 h5 => cases h5; exact ⟨_, rfl, h4⟩
      · cases he

theorem renA_rel (hR : Ren μ ν ok ok' wk ρ) {x y : AV} {v : Value} (h : AVRel w μ ok x v) (he : renA wk ρ x = some y) : AVRel w ν ok' y v := by
  cases x with
  | one x =>
    by_cases hj : x = .junk
    · subst hj; cases he
    · have he' : (match renS wk ρ x with | some z => some (AV.one z) | none => none) = some y := by
        cases x <;> first | exact absurd rfl hj | exact he
      split at he'
      · rename_i z hz
        cases he'
        obtain ⟨g1, g2⟩ := renS_rel hR (by rwa [AVRel.eq1 hj] at h) hz
        rw [AVRel.eq1 (fun e => hj (g2 e))]; exact g1
      · cases he'
  | agg cs =>
    simp only [renA] at he
    split at he
    · rename_i z hz
      cases he
      obtain ⟨vs, e, hh⟩ := h
      exact ⟨vs, e, renL_rel hR hh hz⟩
    · cases he
  | tup l =>
    simp only [renA] at he
    split at he
    · rename_i z hz
      cases he
      obtain ⟨vs, e, hh⟩ := h
      exact ⟨vs, e, renT_rel hR hh hz⟩
    · cases he
  | own cs => exact h.elim
  | arr f t xs => exact h.elim
  | mapO f kt vt es => exact h.elim
  | gho o => exact h.elim

theorem renAs_rel (hR : Ren μ ν ok ok' wk ρ) : ∀ {xs ys : List AV} {vs : List Value}, All2 (AVRel w μ ok) xs vs → renAs wk ρ xs = some ys → All2 (AVRel w ν ok') ys vs := by
  intro xs
  induction xs with
  | nil => intro ys vs h he; simp only [renAs, Option.some.injEq] at he; subst he; cases h; exact .nil
  | cons x xs ih =>
    intro ys vs h he
    cases h with
    | cons h1 h2 =>
      simp only [renAs] at he
      split at he
      · rename_i y z e1 e2
        cases he
        exact .cons (renA_rel hR h1 e1) (ih h2 e2)
      · cases he
theorem renAs_get : ∀ {xs ys : List AV}, renAs wk ρ xs = some ys → ys.length = xs.length ∧ ∀ (k : Nat) x, xs[k]? = some x → ∃ y, ys[k]? = some y ∧ renA wk ρ x = some y := by
  intro xs
  induction xs with
  | nil => intro ys he; simp only [renAs, Option.some.injEq] at he; subst he; exact ⟨rfl, fun k x h => by simp at h⟩
  | cons x xs ih =>
    intro ys he
    simp only [renAs] at he
    split at he
    · rename_i y z e1 e2
      cases he
      obtain ⟨g1, g2⟩ := ih e2
      refine ⟨by simp [g1], fun k x' h => ?_⟩
      cases k with
      | zero => simp only [List.getElem?_cons_zero, Option.some.injEq] at h; subst h; exact ⟨y, rfl, e1⟩
      | succ k => simpa using g2 k x' (by simpa using h)
    · cases he

theorem renA_owner {x y : AV} (he : renA wk ρ x = some y) : y.isOwner = x.isOwner := by
  cases x with
  | one x =>
    by_cases hj : x = .junk
    · subst hj; cases he
    · have he' : (match renS wk ρ x with | some z => some (AV.one z) | none => none) = some y := by
        cases x <;> first | exact absurd rfl hj | exact he
      split at he' <;> cases he'
      rfl
  | agg cs => simp only [renA] at he; split at he <;> cases he; rfl
  | tup cs => simp only [renA] at he; split at he <;> cases he; rfl
  | own cs => simp only [renA] at he; split at he <;> cases he; rfl
  | arr f t xs => cases he; rfl
  | mapO f kt vt es => cases he; rfl
  | gho o => cases he

/-- What an owner's row holds, by other names; it lies at the same place. -/
theorem renOwn_rel (hR : Ren μ ν ok ok' wk ρ) {x y : AV} {i j : Nat} (hij : ν j = μ i) (h : OwnRel w μ ok i x) (he : renA wk ρ x = some y) : OwnRel w ν ok' j y := by
  cases x with
  | own cs =>
    simp only [renA] at he
    split at he
    · rename_i z hz
      cases he
      obtain ⟨b, c, E, h1, h2, h3⟩ := h
      exact ⟨b, c, E, by rw [hij]; exact h1, h2, renL_rel hR h3 hz⟩
    · cases he
  | arr fr t xs =>
    cases he
    obtain ⟨g1, g2, g3, g4⟩ := h
    refine ⟨by rw [hij]; exact g1, by rw [hij]; exact g2, by rw [hij]; exact g3, ?_⟩
    rcases g4 with g4 | ⟨b, c, E, k1, k2, k3, k4⟩
    · exact .inl (by rw [hij]; exact g4)
    · refine .inr ⟨b, c, E, by rw [hij]; exact k1, k2, by rw [hij]; exact k3, fun q hq => ?_⟩
      obtain ⟨cs, t1, t2⟩ := k4 q hq
      exact ⟨cs, TRel.mono (fun _ _ => rfl) (hR.ok fr) t1, t2⟩
  | mapO fr kt vt es =>
    cases he
    obtain ⟨b, h1, h2⟩ := h
    exact ⟨b, by rw [hij]; exact h1, h2.mono (fun _ _ => rfl) (hR.ok fr) rfl⟩
  | one x =>
    have ho := renA_owner he
    cases y <;> first | trivial | cases ho
  | agg x =>
    have ho := renA_owner he
    cases y <;> first | trivial | cases ho
  | tup x =>
    have ho := renA_owner he
    cases y <;> first | trivial | cases ho
  | gho o => cases he
end


/-! ### Slots let go, ghosts, and owners laid in -/
section
variable {mine : Cx} {w0 : World} {st : St} {tm : Array Value} {w : World} {μ : Locs} {ok : OK}

theorem dropAll_ok : ∀ (L : List Nat) {st : St}, Facts mine w0 st tm w μ ok → Facts mine w0 (dropAll L st) tm w μ ok ∧ (dropAll L st).length = st.length ∧
    (∀ i, ((dropAll L st).ow i).isOwner = true → i ∉ L ∧ (st.ow i).isOwner = true) ∧ (∀ i, ((dropAll L st).at i).isGho = (st.at i).isGho) := by
  intro L
  induction L with
  | nil => intro st F; exact ⟨F, rfl, fun i h => ⟨by simp, h⟩, fun _ => rfl⟩
  | cons s L ih =>
    intro st F
    obtain ⟨h1, h2, h3, h4⟩ := ih (F.drop s)
    refine ⟨h1, by rw [dropAll, h2, St.length_upd, St.length_kill], fun i hi => ?_, fun i => ?_⟩
    · obtain ⟨g1, g2⟩ := h3 i hi
      obtain ⟨g3, g4⟩ := drop_owner g2
      exact ⟨by simp [g1, g3], g4⟩
    · rw [dropAll, h4, St.isGho_upd _ _ _ rfl, St.at_kill, AV.isGho_kill]

theorem St.at_append (st t : St) (i : Nat) : St.at (st ++ t) i = if i < st.length then st.at i else St.at t (i - st.length) := by
  unfold St.at
  simp only [List.getD_eq_getElem?_getD]
  split
  · rename_i h; rw [List.getElem?_append_left h]
  · rename_i h; rw [List.getElem?_append_right (by omega)]

/-- One more ghost, wherever its row is to lie. -/
theorem Facts.grow1 (F : Facts mine w0 st tm w μ ok) (l : Loc) : Facts mine w0 (st.kill st.length ++ [.gho .none]) tm w (upd μ st.length l) ok := by
  have hlk : (st.kill st.length).length = st.length := St.length_kill _ _
  have hat : ∀ i, i < st.length → St.at (st.kill st.length ++ [.gho .none]) i = (st.at i).kill st.length := fun i hi => by
    rw [St.at_append, hlk, if_pos hi, St.at_kill]
  have hge : ∀ i, ¬ i < st.length → St.at (st.kill st.length ++ [.gho .none]) i = .gho .none ∨ (St.at (st.kill st.length ++ [.gho .none]) i = .one .junk ∧ st.length < i) := fun i hi => by
    rw [St.at_append, hlk, if_neg hi]
    by_cases e : i = st.length
    · subst e; left; simp [St.at]
    · right; refine ⟨St.at_out _ _ (by simp; omega), by omega⟩
  have how : ∀ i, St.ow (st.kill st.length ++ [.gho .none]) i = (st.ow i).kill st.length := fun i => by
    by_cases hi : i < st.length
    · unfold St.ow; rw [hat i hi, AV.un_kill]
    · rw [St.ow_out st i (by omega)]
      unfold St.ow
      rcases hge i hi with h | ⟨h, _⟩
      · rw [h]; rfl
      · rw [h]; rfl
  have hμ : ∀ (a : AV) s, (a.kill st.length).refers s = true → upd μ st.length l s = μ s := by
    intro a s hs
    refine upd_ne μ l fun e => ?_
    rw [e, AV.kill_self] at hs; cases hs
  have hlen : (st.kill st.length ++ [AV.gho .none]).length = st.length + 1 := by simp [hlk]
  have hne : ∀ i, (st.ow i).isOwner = true → i ≠ st.length := fun i h e => by rw [St.ow_out st i (by omega)] at h; cases h
  refine ⟨fun i => ?_, fun i => ?_, F.size, fun i h1 h2 => ?_, fun i h1 => ?_, by rw [hlen]; have := F.len; omega, fun i l' hi => ?_, fun i b h1 h2 => ?_, fun i j b h1 h2 h3 h4 => ?_, F.okB, F.okT, F.okF, F.okS, F.fr⟩
  · by_cases hi : i < st.length
    · rw [hat i hi]
      have hs := (F.slots i).kill st.length
      cases hg : (st.at i).isGho with
      | true =>
        cases hsi : st.at i with
        | gho o => cases o <;> trivial
        | _ => rw [hsi] at hg; cases hg
      | false => exact hs.mono (fun _ _ _ => rfl) (fun _ _ h => h) (hμ _) (fun _ => upd_ne μ l (by omega))
    · rcases hge i hi with h | ⟨h, _⟩
      · rw [h]; trivial
      · rw [h]; trivial
  · rw [how i]
    refine ((F.owns i).kill st.length).mono (fun _ _ _ => rfl) (fun _ _ h => h) (hμ _) (fun ho => ?_) (fun _ _ _ => rfl)
    rw [AV.isOwner_kill] at ho
    exact upd_ne μ l (hne i ho)
  · by_cases hi : i < st.length
    · rw [hat i hi, AV.isGho_kill]; exact F.gho i h1 hi
    · rcases hge i hi with h | ⟨h, hlt⟩
      · rw [h]; rfl
      · rw [hlen] at h2; omega
  · have := F.len
    rw [hat i (by omega), AV.isGho_kill]; exact F.real i h1
  · obtain ⟨p1, p2, p3⟩ := F.pin i l' hi
    have := F.len
    exact ⟨p1, p2, by rw [upd_ne μ l (by omega)]; exact p3⟩
  · rw [how i, AV.isOwner_kill] at h1
    rw [upd_ne μ l (hne i h1)] at h2
    exact F.ownB i b h1 h2
  · rw [how i, AV.isOwner_kill] at h1
    rw [how j, AV.isOwner_kill] at h2
    rw [upd_ne μ l (hne i h1)] at h3
    rw [upd_ne μ l (hne j h2)] at h4
    exact F.inj i j b h1 h2 h3 h4

theorem growN_ok (ν : Nat → Loc) : ∀ (k : Nat) {st : St} {μ : Locs}, Facts mine w0 st tm w μ ok →
    Facts mine w0 (growN k st) tm w (fun i => if st.length ≤ i ∧ i < st.length + k then ν i else μ i) ok ∧ (growN k st).length = st.length + k ∧
    (∀ i, ((growN k st).ow i).isOwner = true → (st.ow i).isOwner = true) ∧ (∀ i, i < st.length → ((growN k st).at i).isGho = (st.at i).isGho) := by
  intro k
  induction k with
  | zero =>
    intro st μ F
    refine ⟨?_, rfl, fun _ h => h, fun _ _ => rfl⟩
    have : (fun i => if st.length ≤ i ∧ i < st.length + 0 then ν i else μ i) = μ := by funext i; rw [if_neg (by omega)]
    rw [this]; exact F
  | succ k ih =>
    intro st μ F
    have hlen : (st.kill st.length ++ [AV.gho .none]).length = st.length + 1 := by simp [St.length_kill]
    obtain ⟨h1, h2, h3, h4⟩ := ih (F.grow1 (ν st.length))
    rw [hlen] at h1 h2 h4
    refine ⟨?_, by rw [growN, h2]; omega, fun i hi => ?_, fun i hi => ?_⟩
    · have : (fun i => if st.length ≤ i ∧ i < st.length + (k + 1) then ν i else μ i) = (fun i => if st.length + 1 ≤ i ∧ i < st.length + 1 + k then ν i else upd μ st.length (ν st.length) i) := by
        funext i
        by_cases e : i = st.length
        · subst e
          rw [if_pos (by omega), if_neg (by omega), upd_self]
        · rw [upd_ne μ _ e]
          by_cases h : st.length ≤ i ∧ i < st.length + (k + 1)
          · rw [if_pos h, if_pos (by omega)]
          · rw [if_neg h, if_neg (by omega)]
      rw [this]; exact h1
    · have := h3 i hi
      unfold St.ow at this
      rw [St.at_append, St.length_kill] at this
      by_cases hl : i < st.length
      · rw [if_pos hl, St.at_kill, AV.un_kill, AV.isOwner_kill] at this
        exact this
      · rw [if_neg hl] at this
        exfalso
        by_cases e : i - st.length = 0
        · rw [e] at this; simp [St.at, AV.un, OV.av, AV.isOwner] at this
        · rw [St.at_out _ _ (by simp; omega)] at this; cases this
    · rw [growN, h4 i (by omega), St.at_append, St.length_kill, if_pos hi, St.at_kill, AV.isGho_kill]

/-- An owner is laid in where none is. -/
theorem Facts.fill (F : Facts mine w0 st tm w μ ok) {s : Nat} {v : AV} (hn : (st.ow s).isOwner = false) (hl : s < st.length) (ho : v.isOwner = true) (hslot : (st.at s).isGho = false → SlotRel w μ ok s v (tm.getD s undef)) (hown : OwnRel w μ ok s v)
    (hb : ∀ b, (μ s).b = some b → b < w.heap.size ∧ (w0.heap.size ≤ b ∨ mine.mine b) ∧ ¬ ok false b ∧ ∀ i, (st.ow i).isOwner = true → (μ i).b ≠ some b) : Facts mine w0 (St.upd st s v) tm w μ ok := by
  have hat : ∀ i, i ≠ s → St.at (St.upd st s v) i = st.at i := fun i hi => St.at_upd_ne st v (Ne.symm hi)
  have how : ∀ i, i ≠ s → St.ow (St.upd st s v) i = st.ow i := fun i hi => St.ow_upd_ne st v (Ne.symm hi)
  have hows : St.ow (St.upd st s v) s = v := St.ow_upd_self st s (.inl ho) hl
  have hgi : ∀ i, (St.at (St.upd st s v) i).isGho = (st.at i).isGho := fun i => St.isGho_upd st s i (AV.isGho_owner ho)
  refine ⟨fun i => ?_, fun i => ?_, F.size, fun i h1 h2 => by rw [hgi]; exact F.gho i h1 (by rwa [St.length_upd] at h2), fun i h1 => by rw [hgi]; exact F.real i h1, by rw [St.length_upd]; exact F.len, F.pin,
    fun i b h1 h2 => ?_, fun i j b h1 h2 h3 h4 => ?_, F.okB, F.okT, F.okF, F.okS, F.fr⟩
  · by_cases e : i = s
    · subst e
      unfold St.upd
      rw [St.at_set_self _ _ _ hl]
      cases hg : (st.at i).isGho with
      | true =>
        cases hsi : st.at i with
        | gho o => trivial
        | _ => rw [hsi] at hg; cases hg
      | false =>
        have : (st.at i).re v = v := by cases hsi : st.at i <;> first | rfl | (rw [hsi] at hg; cases hg)
        rw [this]; exact hslot hg
    · rw [hat i e]; exact F.slots i
  · by_cases e : i = s
    · subst e; rw [hows]; exact hown
    · rw [how i e]; exact F.owns i
  · by_cases e : i = s
    · subst e; exact ⟨(hb b h2).1, (hb b h2).2.1, (hb b h2).2.2.1⟩
    · rw [how i e] at h1; exact F.ownB i b h1 h2
  · by_cases e : i = s
    · subst e
      by_cases e' : j = i
      · exact e'.symm
      · rw [how j e'] at h2
        exact absurd h4 ((hb b h3).2.2.2 j h2)
    · rw [how i e] at h1
      by_cases e' : j = s
      · subst e'
        exact absurd h3 ((hb b h4).2.2.2 i h1)
      · rw [how j e'] at h2; exact F.inj i j b h1 h2 h3 h4

theorem fillAll_ok : ∀ (L : List Nat) (hs : List AV) {st : St}, Facts mine w0 st tm w μ ok → L.length = hs.length → L.Nodup → (∀ s ∈ L, (st.ow s).isOwner = false ∧ s < st.length) → (∀ v ∈ hs, v.isOwner = true) →
    (∀ (k s : Nat) (v : AV), L[k]? = some s → hs[k]? = some v → ((st.at s).isGho = false → SlotRel w μ ok s v (tm.getD s undef)) ∧ OwnRel w μ ok s v ∧
      ∀ b, (μ s).b = some b → b < w.heap.size ∧ (w0.heap.size ≤ b ∨ mine.mine b) ∧ ¬ ok false b ∧ (∀ i, (st.ow i).isOwner = true → (μ i).b ≠ some b) ∧ ∀ s' ∈ L, s' ≠ s → (μ s').b ≠ some b) →
    Facts mine w0 (fillAll L hs st) tm w μ ok := by
  intro L
  induction L with
  | nil => intro hs st F _ _ _ _ _; cases hs <;> exact F
  | cons s L ih =>
    intro hs st F hl hn h1 h2 h3
    cases hs with
    | nil => simp at hl
    | cons v hs =>
      simp only [fillAll]
      obtain ⟨a1, a2⟩ := h1 s (by simp)
      obtain ⟨b1, b2, b3⟩ := h3 0 s v rfl rfl
      rw [List.nodup_cons] at hn
      have F1 := F.fill a1 a2 (h2 v (by simp)) b1 b2 fun b hb => ⟨(b3 b hb).1, (b3 b hb).2.1, (b3 b hb).2.2.1, (b3 b hb).2.2.2.1⟩
      have hne : ∀ s' ∈ L, s' ≠ s := fun s' h e => hn.1 (e ▸ h)
      refine ih hs F1 (by simpa using hl) hn.2 (fun s' h => ?_) (fun v' h => h2 v' (by simp [h])) fun k s' v' hk hv => ?_
      · rw [St.ow_upd_ne _ _ (Ne.symm (hne s' h)), St.length_upd]
        exact h1 s' (by simp [h])
      · obtain ⟨c1, c2, c3⟩ := h3 (k + 1) s' v' (by simpa using hk) (by simpa using hv)
        have hmem : s' ∈ L := List.mem_of_getElem? hk
        refine ⟨fun hg => c1 (by rwa [St.at_upd_ne _ _ (Ne.symm (hne s' hmem))] at hg), c2, fun b hb => ?_⟩
        obtain ⟨d1, d2, d3, d4, d5⟩ := c3 b hb
        refine ⟨d1, d2, d3, fun i hi => ?_, fun s2 hs2 hne2 => d5 s2 (by simp [hs2]) hne2⟩
        by_cases e : i = s
        · subst e; exact d5 i (by simp) (Ne.symm (hne s' hmem))
        · rw [St.ow_upd_ne _ _ (Ne.symm e)] at hi
          exact d4 i hi

theorem distN_nodup : ∀ {L : List Nat}, distN L = true → L.Nodup := by
  intro L
  induction L with
  | nil => intro _; exact List.nodup_nil
  | cons s L ih =>
    intro h
    simp only [distN, Bool.and_eq_true] at h
    refine List.nodup_cons.2 ⟨fun hm => ?_, ih h.2⟩
    have : ∀ (L : List Nat) (i : Nat), s ∈ L → (match posN s L i with | some _ => false | none => true) = true → False := by
      intro L
      induction L with
      | nil => intro i h; cases h
      | cons a L ih2 =>
        intro i hm hp
        simp only [posN] at hp
        cases hb : Nat.beq a s with
        | true => rw [hb] at hp; cases hp
        | false =>
          rw [hb] at hp
          rcases List.mem_cons.1 hm with rfl | hm
          · rw [Nat.beq_refl] at hb; cases hb
          · exact ih2 (i + 1) hm hp
    exact this L 0 hm h.1
theorem upN_get : ∀ (m a k : Nat), (upN a m)[k]? = if k < m then some (a + k) else none := by
  intro m
  induction m with
  | zero => intro a k; simp [upN]
  | succ m ih =>
    intro a k
    cases k with
    | zero => simp [upN]
    | succ k =>
      simp only [upN, List.getElem?_cons_succ, ih]
      by_cases h : k < m
      · rw [if_pos h, if_pos (by omega)]; congr 1; omega
      · rw [if_neg h, if_neg (by omega)]
theorem upN_length : ∀ (m a : Nat), (upN a m).length = m := by
  intro m
  induction m with
  | zero => intro a; rfl
  | succ m ih => intro a; simp [upN, ih]
theorem kindsOk_spec : ∀ {L : List Nat} {hs : List AV}, kindsOk st L hs = true → L.length ≤ hs.length ∧ ∀ (k s : Nat) (v : AV), L[k]? = some s → hs[k]? = some v → sameKind (st.ow s) v = true := by
  intro L
  induction L with
  | nil => intro hs _; exact ⟨Nat.zero_le _, fun k s v h => by simp at h⟩
  | cons s L ih =>
    intro hs h
    cases hs with
    | nil => cases h
    | cons v hs =>
      simp only [kindsOk, Bool.and_eq_true] at h
      obtain ⟨g1, g2⟩ := ih h.2
      refine ⟨by simp; omega, fun k s' v' h1 h2 => ?_⟩
      cases k with
      | zero => cases h1; cases h2; exact h.1
      | succ k => exact g2 k s' v' (by simpa using h1) (by simpa using h2)
theorem sameKind_slot {w w' : World} {μ μ' : Locs} {ok ok' : OK} {s : Nat} {x y : AV} {v : Value} (hk : sameKind x y = true) (hl : μ' s = μ s) (h : SlotRel w μ ok s x v) : SlotRel w' μ' ok' s y v := by
  cases x <;> cases y <;> first | cases hk | skip
  · obtain ⟨b, h1, h2⟩ := h; exact ⟨b, by rw [hl]; exact h1, h2⟩
  · have h : v = slv (μ s) none := h
    show v = slv (μ' s) none
    rw [hl]; exact h
  · obtain ⟨b, h1, h2⟩ := h; exact ⟨b, by rw [hl]; exact h1, h2⟩
end

end Go.AM
