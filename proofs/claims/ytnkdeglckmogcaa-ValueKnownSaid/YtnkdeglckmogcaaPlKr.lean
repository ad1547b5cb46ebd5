/- know: the definition's answers are the program's. -/
import Derived.Test.YtnkdeglckmogcaaSeKT
set_option linter.unusedVariables false
set_option linter.unusedSimpArgs false
set_option maxRecDepth 100000
namespace Go.AM.Seat
open Go Go.AM Go.Proofs

theorem odd75_eq (l : List Term.D) (k : Int) : odd75 l k = oddI l k := rfl
theorem placesR_iff {l : List Term.D} {x : List Int} : placesR l x = true ↔ OkP l x ∧ GoodL l := by
  unfold placesR OkP
  rw [checkR_eq]
  have hc : (checkL l != 0) = false ↔ GoodL l := by rw [← checkL_iff]; simp
  have hx : (!x.any (odd75 l)) = true ↔ ∀ i ∈ x, InL l i := by
    rw [Bool.not_eq_true', List.any_eq_false]
    exact ⟨fun h i hi => oddI_false.1 (by have := h i hi; simpa [odd75_eq] using this), fun h i hi => by rw [odd75_eq, oddI_false.2 (h i hi)]; simp⟩
  cases h1 : checkL l != 0 with
  | true =>
    have hn : ¬ GoodL l := fun e => by rw [hc.2 e] at h1; cases h1
    exact ⟨fun h => (by cases h), fun h => absurd h.2 hn⟩
  | false =>
    have hg := hc.1 h1
    cases h2 : decide ((x.length : Int) > 65536) with
    | true =>
      have := of_decide_eq_true h2
      exact ⟨fun h => (by cases h), fun h => by have := h.1.1; omega⟩
    | false =>
      have := of_decide_eq_false h2
      simp only [cond_false]
      rw [hx]
      exact ⟨fun h => ⟨⟨by omega, h⟩, hg⟩, fun h => h.1.2⟩
theorem folR_iff {l : List Term.D} (hg : GoodL l) {set : List Int} (hs : ∀ x ∈ set, InL l x) {t : Int} (ht : InL l t) : folR l set t = true ↔ Fol l (fun y => y ∈ set) t := by
  have hk := hg.tok ht
  have e1 : fst78 l set t = bif (bif (bif decide (kd l t ≥ 2) then decide (kd l t ≤ 4) else false) then inL set (pa l t) else false) then true else bif (bif kd l t == 5 then inL set (pa l t) else false) then inL set (pb l t) else false := rfl
  have h1 : fst78 l set t = true ↔ kd l t ≠ 1 ∧ pa l t ∈ set ∧ (kd l t = 5 → pb l t ∈ set) := by
    rw [e1]
    have ha := inL_iff (xs := set) (t := pa l t)
    have hb := inL_iff (xs := set) (t := pb l t)
    have hf := hk.fk
    rcases Classical.em (kd l t = 5) with h5 | h5
    · rw [h5]
      simp only [show decide ((5 : Int) ≥ 2) = true from rfl, show decide ((5 : Int) ≤ 4) = false from rfl, cond_true, cond_false, beq_self_eq_true]
      cases h2 : inL set (pa l t) with
      | true => simp only [cond_true]; rw [hb]; have := ha.1 h2; simp [this]
      | false =>
        have : pa l t ∉ set := fun e => by rw [ha.2 e] at h2; cases h2
        simp [this]
    · have h5' : (kd l t == 5) = false := by simpa using h5
      rw [h5']
      rcases Classical.em (kd l t = 1) with h9 | h9
      · rw [h9]; simp
      · rw [decide_eq_true (show kd l t ≥ 2 by omega), decide_eq_true (show kd l t ≤ 4 by omega)]
        simp only [cond_true, cond_false]
        cases h2 : inL set (pa l t) with
        | true => have := ha.1 h2; simp [this, h9, h5]
        | false =>
          have : pa l t ∉ set := fun e => by rw [ha.2 e] at h2; cases h2
          simp [this]
  have h2 : set.any (out78 l set t) = true ↔ ∃ w, InL l w ∧ kd l w = 5 ∧ w ∈ set ∧ pa l w ∈ set ∧ t = pb l w := by
    have eo : ∀ k, out78 l set t k = bif (bif kd l k == 5 then pb l k == t else false) then inL set (pa l k) else false := fun _ => rfl
    rw [List.any_eq_true]
    constructor
    · rintro ⟨w, hw, h⟩
      rw [eo] at h
      cases h5 : kd l w == 5 with
      | false => rw [h5] at h; cases h
      | true =>
        cases hb : pb l w == t with
        | false => rw [h5, hb] at h; cases h
        | true =>
          rw [h5, hb] at h
          exact ⟨w, hs w hw, eq_of_beq h5, hw, inL_iff.1 h, (eq_of_beq hb).symm⟩
    · rintro ⟨w, _, h5, hw, ha, rfl⟩
      refine ⟨w, hw, ?_⟩
      rw [eo, h5, inL_iff.2 ha]
      simp
  unfold folR Fol
  cases hf : fst78 l set t with
  | true => exact ⟨fun _ => .inl ⟨ht, h1.1 hf⟩, fun _ => rfl⟩
  | false =>
    simp only [cond_false]
    rw [h2]
    exact ⟨.inr, fun h => h.resolve_left fun h => by rw [h1.2 h.2] at hf; cases hf⟩
/-! ### the loop that goes on as long as something comes -/
def missN (n : Nat) (set : List Int) : Nat := (List.range n).countP fun (k : Nat) => !inL set (k : Int)
theorem countP_lt {α : Type} {p q : α → Bool} : ∀ {l : List α}, (∀ x, q x = true → p x = true) → (∃ x ∈ l, p x = true ∧ q x = false) → l.countP q + 1 ≤ l.countP p := by
  intro l
  induction l with
  | nil => rintro _ ⟨x, hx, _⟩; cases hx
  | cons a l ih =>
    rintro h ⟨x, hx, h1, h2⟩
    have hle : l.countP q ≤ l.countP p := List.countP_mono_left fun x _ => h x
    rw [List.countP_cons, List.countP_cons]
    rcases List.mem_cons.1 hx with rfl | hx
    · rw [h1, h2]; simp; exact hle
    · have := ih h ⟨x, hx, h1, h2⟩
      cases hq : q a with
      | true => rw [h a hq]; simp; omega
      | false => cases p a <;> simp <;> omega
theorem miss_push {n : Nat} {set : List Int} {j : Nat} (hj : j < n) (h : (j : Int) ∉ set) : missN n (set ++ [(j : Int)]) + 1 ≤ missN n set := by
  unfold missN
  refine countP_lt (fun x hx => ?_) ⟨j, List.mem_range.2 hj, ?_, ?_⟩
  · simp only [Bool.not_eq_true'] at hx ⊢
    cases hi : inL set (x : Int) with
    | false => rfl
    | true => rw [inL_iff.2 (List.mem_append_left _ (inL_iff.1 hi))] at hx; cases hx
  · have : inL set (j : Int) = false := by
      cases hi : inL set (j : Int) with
      | false => rfl
      | true => exact absurd (inL_iff.1 hi) h
    rw [this]; rfl
  · rw [inL_iff.2 (List.mem_append_right _ (by simp))]; rfl
theorem pass_ok {l : List Term.D} (hg : GoodL l) {D : Int → Prop} (hD : ∀ x, Fol l D x → D x) : ∀ (m j : Nat) (s : List Int × Bool), j + m = l.length → (∀ x ∈ s.1, InL l x) → (∀ x ∈ s.1, D x) →
    (∀ x ∈ (passR l m j s).1, InL l x) ∧ (∀ x ∈ (passR l m j s).1, D x) ∧ (∃ t, (passR l m j s).1 = s.1 ++ t) ∧ ((passR l m j s).2 = false → s.2 = false ∧ (passR l m j s).1 = s.1 ∧ ∀ k : Nat, j ≤ k → k < l.length → (k : Int) ∈ s.1 ∨ ¬ Fol l (fun y => y ∈ s.1) k) ∧
      (passR l m j s).1.length + missN l.length (passR l m j s).1 ≤ s.1.length + missN l.length s.1 ∧ ((passR l m j s).2 = true → s.2 = true ∨ missN l.length (passR l m j s).1 + 1 ≤ missN l.length s.1) ∧ missN l.length (passR l m j s).1 ≤ missN l.length s.1 := by
  intro m
  induction m with
  | zero =>
    intro j s hj h1 h2
    exact ⟨h1, h2, ⟨[], by simp [passR]⟩, fun h => ⟨h, rfl, fun k _ hk => by omega⟩, Nat.le_refl _, fun h => .inl h, Nat.le_refl _⟩
  | succ m ih =>
    intro j s hj h1 h2
    have hlt : j < l.length := by omega
    have hjI : InL l (j : Int) := ⟨by omega, by omega⟩
    rw [passR]
    cases hx : (bif !inL s.1 j then folR l s.1 j else false) with
    | false =>
      have e : pass1 l s j = s := by unfold pass1; rw [hx]; rfl
      rw [e]
      obtain ⟨a1, a2, a3, a4, a5, a6, a7⟩ := ih (j + 1) s (by omega) h1 h2
      refine ⟨a1, a2, a3, fun h => ?_, a5, a6, a7⟩
      obtain ⟨b1, b2, b3⟩ := a4 h
      refine ⟨b1, b2, fun k hk hkl => ?_⟩
      rcases Nat.eq_or_lt_of_le hk with rfl | hk
      · cases hi : inL s.1 j with
        | true => exact .inl (inL_iff.1 hi)
        | false =>
          rw [hi] at hx
          exact .inr fun hf => by rw [(folR_iff hg h1 hjI).2 hf] at hx; cases hx
      · exact b3 k hk hkl
    | true =>
      have e : pass1 l s j = (s.1 ++ [(j : Int)], true) := by unfold pass1; rw [hx]; rfl
      rw [e]
      have hi : inL s.1 j = false := by
        cases hi : inL s.1 j with
        | true => rw [hi] at hx; cases hx
        | false => rfl
      have hf : Fol l (fun y => y ∈ s.1) j := (folR_iff hg h1 hjI).1 (by rw [hi] at hx; exact hx)
      have hn : (j : Int) ∉ s.1 := fun e => by rw [inL_iff.2 e] at hi; cases hi
      have hm := miss_push hlt hn
      obtain ⟨a1, a2, ⟨t, a3⟩, a4, a5, a6, a7⟩ := ih (j + 1) (s.1 ++ [(j : Int)], true) (by omega) (fun x hx => by
        rcases List.mem_append.1 hx with hx | hx
        · exact h1 x hx
        · rw [List.mem_singleton.1 hx]; exact hjI) (fun x hx => by
        rcases List.mem_append.1 hx with hx | hx
        · exact h2 x hx
        · rw [List.mem_singleton.1 hx]; exact hD _ (hf.mono h2))
      refine ⟨a1, a2, ⟨[(j : Int)] ++ t, by rw [a3]; simp⟩, fun h => (by have := (a4 h).1; cases this), ?_, fun _ => .inr ?_, ?_⟩
      · simp only [List.length_append, List.length_cons, List.length_nil] at a5; omega
      · simp only at a7; omega
      · simp only at a7; omega
theorem out_ok' {l : List Term.D} (hg : GoodL l) {D : Int → Prop} (hD : ∀ x, Fol l D x → D x) : ∀ (f : Nat) (set : List Int), missN l.length set < f → set.length + missN l.length set ≤ 200000 → (∀ x ∈ set, InL l x) → (∀ x ∈ set, D x) →
    ∃ s, outR l f set = some s ∧ (∀ x ∈ s, InL l x) ∧ (∀ x ∈ s, D x) ∧ (∃ t, s = set ++ t) ∧ ∀ x, InL l x → Fol l (fun y => y ∈ s) x → x ∈ s := by
  intro f
  induction f with
  | zero => intro set h; omega
  | succ f ih =>
    intro set hm hl h1 h2
    have hmx := hg.1
    have hok : okSet l set = true := by
      unfold okSet
      rw [decide_eq_true (show set.length + l.length ≤ 1000000 by omega), Bool.and_true]
      exact List.all_eq_true.2 fun x hx => inB_iff.2 (h1 x hx)
    obtain ⟨a1, a2, ⟨t, a3⟩, a4, a5, a6, a7⟩ := pass_ok hg hD l.length 0 (set, false) (by omega) h1 h2
    rw [outR, hok]
    simp only [cond_true]
    cases hb : (passR l l.length 0 (set, false)).2 with
    | true =>
      have hmm := (a6 hb).resolve_left (by simp)
      simp only at hmm a5 a3
      obtain ⟨s, b1, b2, b3, ⟨t', b4⟩, b5⟩ := ih _ (by omega) (by omega) a1 a2
      exact ⟨s, b1, b2, b3, ⟨t ++ t', by rw [b4, a3, List.append_assoc]⟩, b5⟩
    | false =>
      obtain ⟨_, c2, c3⟩ := a4 hb
      refine ⟨_, rfl, a1, a2, ⟨t, a3⟩, fun x hx hf => ?_⟩
      rw [c2] at hf ⊢
      obtain ⟨k, rfl⟩ := Int.eq_ofNat_of_zero_le hx.1
      exact (c3 k (Nat.zero_le _) (by have := hx.2; omega)).resolve_right fun hn => hn hf
theorem miss_le (n : Nat) (set : List Int) : missN n set ≤ n := by
  unfold missN
  exact Nat.le_trans List.countP_le_length (by simp)
theorem filN_eq (set : List Int) : ∀ (m j : Nat) (o : List Int), filN set m j o = o ++ ((List.range' j m).map fun (k : Nat) => (k : Int)).filter (inL set) := by
  intro m
  induction m with
  | zero => intro j o; simp [filN]
  | succ m ih =>
    intro j o
    rw [filN, ih, List.range'_succ, List.map_cons, List.filter_cons]
    cases inL set j <;> simp
theorem asc_ext : ∀ {a b : List Int}, a.Pairwise (· < ·) → b.Pairwise (· < ·) → (∀ x, x ∈ a ↔ x ∈ b) → a = b := by
  intro a
  induction a with
  | nil =>
    intro b _ _ h
    cases b with
    | nil => rfl
    | cons y b => exact absurd ((h y).2 (by simp)) (by simp)
  | cons x a ih =>
    intro b ha hb h
    cases b with
    | nil => exact absurd ((h x).1 (by simp)) (by simp)
    | cons y b =>
      rw [List.pairwise_cons] at ha hb
      have hxy : x = y := by
        rcases List.mem_cons.1 ((h x).1 (by simp)) with e | e
        · exact e
        · rcases List.mem_cons.1 ((h y).2 (by simp)) with e2 | e2
          · exact e2.symm
          · have h1 := hb.1 x e
            have h2 := ha.1 y e2
            omega
      subst hxy
      rw [ih ha.2 hb.2 fun z => ?_]
      constructor
      · intro hz
        rcases List.mem_cons.1 ((h z).1 (by simp [hz])) with e | e
        · subst e; exact absurd (ha.1 z hz) (Int.lt_irrefl _)
        · exact e
      · intro hz
        rcases List.mem_cons.1 ((h z).2 (by simp [hz])) with e | e
        · subst e; exact absurd (hb.1 z hz) (Int.lt_irrefl _)
        · exact e
theorem knownR_eq {l : List Term.D} {h : List Int} (hh : OkP l h) (hg : GoodL l) : gd76 l h = true ∧ knownR l h = knownL l h := by
  have hmx := hg.1
  have hl := hh.1
  have hm := miss_le l.length h
  obtain ⟨s, a1, a2, a3, ⟨t, a4⟩, a5⟩ := out_ok' hg (D := Der l h) (fun x H => Der.fol H) (l.length + 2) h (by omega) (by omega) hh.2 (fun x hx => .base hx)
  refine ⟨?_, ?_⟩
  · unfold gd76
    rw [a1, decide_eq_true (show l.length ≤ 1000000 by omega), show nRoom h.length = true from decide_eq_true (by omega)]; rfl
  · have e : knownR l h = ((List.range' 0 l.length).map fun (k : Nat) => (k : Int)).filter (inL s) := by
      unfold knownR; rw [a1, filN_eq]; rfl
    rw [e]
    refine asc_ext ?_ (known_asc hh hg) fun x => ?_
    · refine List.Pairwise.filter _ (List.pairwise_map.2 ?_)
      exact (List.pairwise_lt_range').imp fun h => by omega
    · rw [known_mem hh hg, List.mem_filter, inL_iff, List.mem_map]
      constructor
      · rintro ⟨_, hx⟩; exact a3 x hx
      · intro hx
        have hr := hx.rng hg hh.2
        obtain ⟨k, rfl⟩ := Int.eq_ofNat_of_zero_le hr.1
        refine ⟨⟨k, by rw [List.mem_range'_1]; have := hr.2; omega, rfl⟩, ?_⟩
        exact Der.least (S := fun y => y ∈ s) (fun y hy => by rw [a4]; exact List.mem_append_left _ hy) (fun y hy => by
          refine a5 y ?_ hy
          rcases hy with ⟨h1, _⟩ | ⟨w, h1, h2, _, _, rfl⟩
          · exact h1
          · have := (hg.tok h1).fb h2; exact ⟨this.1, by have := h1.2; omega⟩) _ hx
/-! ### shut -/
def ShutP (l : List Term.D) (h : List Int) : Prop := ∀ x, Fol l (fun y => y ∈ h) x → x ∈ h
theorem shut_iff {l : List Term.D} (hg : GoodL l) {h : List Int} (hh : OkP l h) : (!h.any (not33 l (useL l) (kn0 l h))) = true ↔ ShutP l h := by
  obtain ⟨k1, k2⟩ := kn0_ok (l := l) hh
  have hn : ∀ k ∈ h, (not33 l (useL l) (kn0 l h) k = false ↔ ∀ y ∈ nextL l (kn0 l h).1 (useL l) k, y ∈ h) := fun k hk => by
    unfold not33
    rw [List.any_eq_false]
    refine forall_congr' fun y => forall_congr' fun hy => ?_
    have hyI := (next_in hg (fun x H => Der.fol H) k1 (hh.2 k hk) y hy).1
    unfold ans1
    rw [← k2, ← k1.mem y hyI]
    cases mAt (kn0 l h).1 y <;> simp
  rw [Bool.not_eq_true', List.any_eq_false]
  constructor
  · intro H
    have H' : ∀ k ∈ h, ∀ y ∈ nextL l (kn0 l h).1 (useL l) k, y ∈ h := fun k hk => (hn k hk).1 (by simpa using H k hk)
    have key : ∀ (p : List Int), (∀ y ∈ p, y ∈ h) → ∀ x, Fol l (fun y => y ∈ p) x → x ∈ h := by
      intro p
      induction p with
      | nil => intro _ x hx; rcases hx with ⟨_, _, h3, _⟩ | ⟨_, _, _, h3, _⟩ <;> cases h3
      | cons c p ih =>
        intro hp x hx
        have hc := hp c (by simp)
        rcases next_has hg k1 (S := fun y => y ∈ p) (fun y hy => (k2 y).2 (hp y (by simp [hy]))) (hh.2 c hc) (hx.mono fun y hy => by
          rcases List.mem_cons.1 hy with e | e
          · exact .inr e
          · exact .inl e) ((k2 c).2 hc) with h9 | h9
        · exact H' c hc x h9
        · exact ih (fun y hy => hp y (by simp [hy])) x h9
    exact key h (fun _ h => h)
  · intro H k hk
    have : not33 l (useL l) (kn0 l h) k = false := (hn k hk).2 fun y hy => by
      have hI := (next_in hg (fun x H => Der.fol H) k1 (hh.2 k hk) y hy).1
      refine H y ?_
      unfold nextL at hy
      obtain ⟨u, hu, hy⟩ := List.mem_flatMap.1 hy
      have hu := row_in hg (hh.2 k hk) u hu
      rcases (nextU_mem hg k1 hu y).1 hy with ⟨rfl, h1, h2, h3⟩ | ⟨rfl, h1, h2, h3⟩
      · exact .inl ⟨hu, h1, (k2 _).1 h2, fun e => (k2 _).1 (h3 e)⟩
      · exact .inr ⟨u, hu, h1, (k2 _).1 h2, (k2 _).1 h3, rfl⟩
    rw [this]; simp
theorem shutR_iff {l : List Term.D} (hg : GoodL l) {h : List Int} (hh : OkP l h) : (!anyN (fun i => bif folR l h i then !inL h i else false) l.length) = true ↔ ShutP l h := by
  rw [Bool.not_eq_true']
  constructor
  · intro H x hx
    have hI : InL l x := by
      rcases hx with ⟨h1, _⟩ | ⟨w, h1, h2, _, _, rfl⟩
      · exact h1
      · have := (hg.tok h1).fb h2; exact ⟨this.1, by have := h1.2; omega⟩
    obtain ⟨k, rfl⟩ := Int.eq_ofNat_of_zero_le hI.1
    rcases Classical.em ((k : Int) ∈ h) with e | e
    · exact e
    · have : anyN (fun i => bif folR l h i then !inL h i else false) l.length = true := anyN_iff.2 ⟨k, by have := hI.2; omega, by
        have h1 : folR l h (k : Int) = true := (folR_iff hg hh.2 hI).2 hx
        have h2 : inL h (k : Int) = false := by
          cases hi : inL h (k : Int) with
          | true => exact absurd (inL_iff.1 hi) e
          | false => rfl
        rw [h1, h2]; rfl⟩
      rw [this] at H; cases H
  · intro H
    cases ha : anyN (fun i => bif folR l h i then !inL h i else false) l.length with
    | false => rfl
    | true =>
      obtain ⟨k, hk, hx⟩ := anyN_iff.1 ha
      have hI : InL l (k : Int) := ⟨by omega, by omega⟩
      cases h1 : folR l h (k : Int) with
      | false => rw [h1] at hx; cases hx
      | true =>
        rw [h1] at hx
        have := inL_iff.2 (H _ ((folR_iff hg hh.2 hI).1 h1))
        rw [this] at hx; cases hx
/-! ### chains -/
theorem chain_iff {l : List Term.D} {h : List Int} : ∀ (r pre : List Int), Chain l h pre r ↔ ∀ k, (hk : k < r.length) → r[k] ∉ pre ++ r.take k ∧ (r[k] ∈ h ∨ Fol l (fun y => y ∈ pre ++ r.take k) r[k]) := by
  intro r
  induction r with
  | nil => intro pre; exact ⟨fun _ k hk => by simp at hk, fun _ => trivial⟩
  | cons x r ih =>
    intro pre
    rw [Chain, ih]
    constructor
    · rintro ⟨h1, h2, h3⟩ k hk
      cases k with
      | zero => simpa using ⟨h1, h2⟩
      | succ k =>
        have := h3 k (by simpa using hk)
        simpa using this
    · intro H
      have h0 := H 0 (by simp)
      rw [List.take_zero, List.append_nil] at h0
      refine ⟨h0.1, h0.2, fun k hk => ?_⟩
      have := H (k + 1) (by simpa using hk)
      simpa using this
theorem isR_iff {l : List Term.D} (hg : GoodL l) {h st : List Int} (hh : OkP l h) (hst : OkP l st) : (!anyN (fun i => badI l h st i) st.length) = true ↔ Chain l h [] st := by
  rw [chain_iff]
  have hb : ∀ (k : Nat) (hk : k < st.length), badI l h st k = false ↔ st[k] ∉ ([] : List Int) ++ st.take k ∧ (st[k] ∈ h ∨ Fol l (fun y => y ∈ ([] : List Int) ++ st.take k) st[k]) := fun k hk => by
    have e : eA st (k : Int) = st[k] := by unfold eA; simp [hk]
    have hI := hst.2 st[k] (List.getElem_mem hk)
    have hf := folR_iff hg (set := st.take k) (fun x hx => hst.2 x (List.mem_of_mem_take hx)) hI
    unfold badI
    rw [e, Int.toNat_natCast, List.nil_append]
    cases h1 : inL (st.take k) st[k] with
    | true => have := inL_iff.1 h1; simp [this]
    | false =>
      have n1 : st[k] ∉ st.take k := fun e => by rw [inL_iff.2 e] at h1; cases h1
      cases h2 : inL h st[k] with
      | true => have := inL_iff.1 h2; simp [this, n1]
      | false =>
        have n2 : st[k] ∉ h := fun e => by rw [inL_iff.2 e] at h2; cases h2
        cases h3 : folR l (st.take k) st[k] with
        | true => simp [n1, n2, hf.1 h3]
        | false =>
          have n3 : ¬ Fol l (fun y => y ∈ st.take k) st[k] := fun e => by rw [hf.2 e] at h3; cases h3
          simp [n1, n2, n3]
  rw [Bool.not_eq_true']
  constructor
  · intro H k hk
    refine (hb k hk).1 ?_
    cases hx : badI l h st k with
    | false => rfl
    | true =>
      have : anyN (fun i => badI l h st i) st.length = true := anyN_iff.2 ⟨k, hk, hx⟩
      rw [this] at H; cases H
  · intro H
    cases ha : anyN (fun i => badI l h st i) st.length with
    | false => rfl
    | true =>
      obtain ⟨k, hk, hx⟩ := anyN_iff.1 ha
      rw [(hb k hk).2 (H k hk)] at hx; cases hx
end Go.AM.Seat
