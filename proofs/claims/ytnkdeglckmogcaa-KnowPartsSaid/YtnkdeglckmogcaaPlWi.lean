/- term.Within: plain laws: what is reached from a term, in ascending order. -/
import Derived.Test.YtnkdeglckmogcaaSeWi
import Derived.Test.YtnkdeglckmogcaaPlT
set_option linter.unusedVariables false
set_option linter.unusedSimpArgs false
set_option maxRecDepth 100000
namespace Go.AM.Seat
open Go Go.AM Go.Proofs

theorem nodup_len : ∀ (n : Nat) (q : List Int), q.Nodup → (∀ x ∈ q, 0 ≤ x ∧ x < n) → q.length ≤ n := by
  intro n
  induction n with
  | zero =>
    intro q _ h
    cases q with
    | nil => exact Nat.le_refl _
    | cons x q => have := h x (by simp); omega
  | succ n ih =>
    intro q hq h
    have h1 := ih (q.erase (n : Int)) (hq.erase _) fun x hx => by
      have hm := (hq.mem_erase_iff).1 hx
      have := h x hm.2
      have := hm.1
      omega
    have h2 := List.length_erase (a := (n : Int)) (l := q)
    split at h2 <;> omega
theorem parts_lt {l : List Term.D} (hg : GoodL l) {x : Int} (h0 : 0 ≤ x) (h1 : x < l.length) : ∀ y ∈ partsL (tAt l x), 0 ≤ y ∧ y < x := by
  obtain ⟨n, rfl⟩ := Int.eq_ofNat_of_zero_le h0
  have hn : n < l.length := by omega
  have hx : l[n]? = some l[n] := List.getElem?_eq_getElem hn
  have hm := (hg.2 n _ hx).1
  rw [tAt_get hx]
  intro y hy
  unfold mayB at hm
  cases hb : mayBad l[n] with
  | true => rw [hb] at hm; cases hm
  | false =>
    rw [hb] at hm
    cases h1 : l[n].1 == 1 with
    | true =>
      have e := eq_of_beq h1
      unfold partsL at hy
      rw [e] at hy
      exact absurd hy (by simp)
    | false =>
      rw [h1] at hm
      simp only [cond_false, Bool.not_eq_true'] at hm
      have := List.any_eq_false.1 hm y hy
      unfold badP at this
      simp at this
      omega
abbrev Es := List (I.D × Un.D)
theorem eqI_iff (x y : Int) : eqD I x y = true ↔ x = y := by
  have e : eqD I x y = ((x : Int) == (y : Int)) := by unfold eqD; rfl
  rw [e]; exact beq_iff_eq
theorem mhas_cons (x : Int) (e : I.D × Un.D) (es : Es) : mhas (kt := I) (vt := Un) x (e :: es) = true ↔ x = e.1 ∨ mhas (kt := I) (vt := Un) x es = true := by
  have h : mhas (kt := I) (vt := Un) x (e :: es) = bif eqD I x e.1 then true else mhas (kt := I) (vt := Un) x es := by
    unfold mhas
    rw [mget]
    cases eqD I x e.1 <;> rfl
  rw [h]
  cases he : eqD I x e.1 with
  | true => simp [(eqI_iff x e.1).1 he]
  | false =>
    have hn : ¬ x = e.1 := fun q => by rw [(eqI_iff x e.1).2 q] at he; cases he
    simp [hn]
theorem mhas_mput (x y : Int) : ∀ (es : Es), mhas (kt := I) (vt := Un) x (mput (kt := I) (vt := Un) y () es) = true ↔ x = y ∨ mhas (kt := I) (vt := Un) x es = true := by
  intro es
  induction es with
  | nil =>
    show mhas (kt := I) (vt := Un) x ((y, ()) :: []) = true ↔ _
    rw [mhas_cons]
  | cons e es ih =>
    rw [mput]
    cases hy : eqD I y e.1 with
    | true =>
      have hy := (eqI_iff y e.1).1 hy
      rw [cond_true, mhas_cons, mhas_cons, ← hy]
      constructor
      · rintro (h | h)
        · exact .inl h
        · exact .inr (.inr h)
      · rintro (h | h | h)
        · exact .inl h
        · exact .inl h
        · exact .inr h
    | false =>
      rw [cond_false, mhas_cons, mhas_cons, ih]
      constructor
      · rintro (h | h | h)
        · exact .inr (.inl h)
        · exact .inl h
        · exact .inr (.inr h)
      · rintro (h | h | h)
        · exact .inr (.inl h)
        · exact .inl h
        · exact .inr (.inr h)
/-- What a term leads to. -/
inductive Reach (l : List Term.D) (i : Int) : Int → Prop
  | self : Reach l i i
  | part {x y : Int} : Reach l i x → y ∈ partsL (tAt l x) → Reach l i y
/-- The set is the queue; what is in it is reached from i. -/
structure Q (l : List Term.D) (i : Int) (es : Es) (q : List Int) : Prop where
  cov : ∀ x, mhas (kt := I) (vt := Un) x es = true ↔ x ∈ q
  nd : q.Nodup
  rng : ∀ x ∈ q, 0 ≤ x ∧ x ≤ i
  rch : ∀ x ∈ q, Reach l i x
  mem : i ∈ q
theorem Q.len {l : List Term.D} {i : Int} {es : Es} {q : List Int} (h : Q l i es q) (h0 : 0 ≤ i) : q.length ≤ i.toNat + 1 :=
  nodup_len _ q h.nd fun x hx => by have := h.rng x hx; omega
theorem visO_ok {l : List Term.D} {i : Int} (h0 : 0 ≤ i) (h1 : i ≤ 65536) {b : Bool} {es : Es} {q : List Int} (h : Q l i es q) {y : Int} (hy : 0 ≤ y ∧ y ≤ i) (hr : Reach l i y) :
    ∃ b' es' t, visO y (b, es, q) = some (b', es', q ++ t) ∧ Q l i es' (q ++ t) ∧ y ∈ q ++ t := by
  unfold visO
  cases hm : mhas (kt := I) (vt := Un) y es with
  | true => exact ⟨b, es, [], by rw [List.append_nil]; rfl, by rw [List.append_nil]; exact h, by rw [List.append_nil]; exact (h.cov y).1 hm⟩
  | false =>
    have hn : y ∉ q := fun hq => by rw [(h.cov y).2 hq] at hm; cases hm
    have hl := h.len h0
    refine ⟨true, mput (kt := I) (vt := Un) y () es, [y], ?_, ⟨fun x => ?_, ?_, fun x hx => ?_, fun x hx => ?_, ?_⟩, by simp⟩
    · have : roomI (q.length + [y].length) = true := decide_eq_true (by simp; omega)
      simp only [Bool.not_false, cond_true]
      rw [this]; rfl
    · rw [mhas_mput, h.cov, List.mem_append, List.mem_singleton, Or.comm]
    · rw [List.nodup_append]
      exact ⟨h.nd, by simp, fun a ha c hc e => hn (by rw [List.mem_singleton.1 hc] at e; rw [← e]; exact ha)⟩
    · rcases List.mem_append.1 hx with hx | hx
      · exact h.rng x hx
      · rw [List.mem_singleton.1 hx]; exact hy
    · rcases List.mem_append.1 hx with hx | hx
      · exact h.rch x hx
      · rw [List.mem_singleton.1 hx]; exact hr
    · exact List.mem_append_left _ h.mem
theorem visL_ok {l : List Term.D} {i : Int} (h0 : 0 ≤ i) (h1 : i ≤ 65536) : ∀ (ps : List Int) {b : Bool} {es : Es} {q : List Int}, Q l i es q → (∀ y ∈ ps, 0 ≤ y ∧ y ≤ i) → (∀ y ∈ ps, Reach l i y) →
    ∃ b' es' t, visL ps (b, es, q) = some (b', es', q ++ t) ∧ Q l i es' (q ++ t) ∧ ∀ y ∈ ps, y ∈ q ++ t := by
  intro ps
  induction ps with
  | nil => intro b es q h _ _; exact ⟨b, es, [], by rw [List.append_nil]; rfl, by rw [List.append_nil]; exact h, fun y hy => by cases hy⟩
  | cons y ps ih =>
    intro b es q h hy hr
    obtain ⟨b1, es1, t1, a1, a2, a3⟩ := visO_ok h0 h1 (b := b) h (hy y (by simp)) (hr y (by simp))
    obtain ⟨b2, es2, t2, c1, c2, c3⟩ := ih (b := b1) a2 (fun x hx => hy x (by simp [hx])) (fun x hx => hr x (by simp [hx]))
    rw [List.append_assoc] at c1 c2 c3
    refine ⟨b2, es2, t1 ++ t2, ?_, c2, fun x hx => ?_⟩
    · simp only [visL, a1]; exact c1
    · rcases List.mem_cons.1 hx with rfl | hx
      · rw [← List.append_assoc]; exact List.mem_append_left _ a3
      · exact c3 x hx
theorem iA_nat {q : List Int} {k : Nat} (h : k < q.length) : iA q k = q[k] := by
  unfold iA; simp [h]
theorem bfs_ok {l : List Term.D} (hg : GoodL l) {i : Int} (h0 : 0 ≤ i) (hi : i < l.length) : ∀ (f k : Nat) {b : Bool} {es : Es} {q : List Int}, Q l i es q → k ≤ q.length → i.toNat + 2 ≤ f + k → (∀ j, j < k → ∀ y ∈ partsL (tAt l (iA q j)), y ∈ q) →
    ∃ b' es' q', bfsO l f (b, es, q) k = some (b', es', q') ∧ Q l i es' q' ∧ ∀ x ∈ q', ∀ y ∈ partsL (tAt l x), y ∈ q' := by
  intro f
  induction f with
  | zero =>
    intro k b es q h hk hf _
    have := h.len h0
    omega
  | succ f ih =>
    intro k b es q h hk hf hd
    simp only [bfsO]
    rcases Nat.lt_or_ge k q.length with hlt | hge
    · have hm : q[k] ∈ q := List.getElem_mem hlt
      have hrg := h.rng _ hm
      have e : iA q k = q[k] := iA_nat hlt
      rw [decide_eq_true hlt]
      have hb : inB (iA q k) l.length = true := by
        unfold inB
        rw [e, decide_eq_true hrg.1, decide_eq_true (show q[k] < (l.length : Int) by omega)]; rfl
      have hps := parts_lt hg hrg.1 (show q[k] < (l.length : Int) by omega)
      have hmx : l.length ≤ 65536 := hg.1
      obtain ⟨b1, es1, t, a1, a2, a3⟩ := visL_ok h0 (by omega) (partsL (tAt l (iA q k))) (b := b) h (fun y hy => by rw [e] at hy; have := hps y hy; omega) (fun y hy => by rw [e] at hy; exact .part (h.rch _ hm) hy)
      rw [hb, a1]
      simp only [cond_true]
      refine ih (k + 1) a2 (by rw [List.length_append]; omega) (by omega) fun j hj y hy => ?_
      have hjq : j < q.length := by omega
      have e2 : iA (q ++ t) j = iA q j := by
        rw [iA_nat hjq, iA_nat (by rw [List.length_append]; omega), List.getElem_append_left hjq]
      rw [e2] at hy
      rcases Nat.lt_or_eq_of_le (Nat.le_of_lt_succ hj) with h9 | h9
      · exact List.mem_append_left _ (hd j h9 y hy)
      · subst h9; exact a3 y hy
    · obtain rfl : k = q.length := by omega
      rw [decide_eq_false (Nat.lt_irrefl _)]
      refine ⟨b, es, q, rfl, h, fun x hx y hy => ?_⟩
      obtain ⟨j, hj, rfl⟩ := List.getElem_of_mem hx
      exact hd j hj y (by rw [iA_nat hj]; exact hy)
theorem within_ok {l : List Term.D} {i : Int} (ht : thereI l i = 0) :
    GoodL l ∧ 0 ≤ i ∧ i < l.length ∧ ∃ b es q, outW l (seed i) = some (b, es, q) ∧ Q l i es q ∧ (∀ x ∈ q, ∀ y ∈ partsL (tAt l x), y ∈ q) ∧ q.length ≤ 65536 := by
  unfold thereI at ht
  cases h1 : decide (i < 0) with
  | true => rw [h1] at ht; cases ht
  | false =>
    cases h2 : decide (i ≥ (l.length : Int)) with
    | true => rw [h1, h2] at ht; cases ht
    | false =>
      rw [h1, h2] at ht
      have hg : GoodL l := checkL_iff.1 ht
      have h0 : 0 ≤ i := by simpa using h1
      have hi : i < l.length := by simpa using h2
      have hq : Q l i (mput (kt := I) (vt := Un) i () []) [i] := ⟨fun x => by rw [mhas_mput]; simp [mhas, mget], by simp, fun x hx => by rw [List.mem_singleton.1 hx]; omega, fun x hx => by rw [List.mem_singleton.1 hx]; exact .self, by simp⟩
      obtain ⟨b, es, q, a1, a2, a3⟩ := bfs_ok hg h0 hi (l.length + 2) 0 (b := false) hq (Nat.zero_le _) (by omega) (fun j hj => by omega)
      refine ⟨hg, h0, hi, b, es, q, ?_, a2, a3, by have := a2.len h0; have := hg.1; omega⟩
      unfold outW seed
      exact a1
def s35 : Sp := .fn [.v (.sl Term), .v I] fun x => (true, rlE (withinI x.1 x.2).1 (withinI x.1 x.2).2)
theorem g35 : GoodS Try.prog N35 s35 := by
  refine good (.cons g73 (.cons g74 (.cons g65 (.nil _)))) H35 rfl (by kernel_rfl) (Λ35 outW) live35 (twoLoops (p0 := lkW F35 0) (p1 := lkW F35 1) (by kernel_rfl) loop35o loop35i) [.v (.sl Term), .v I] (by decide) [.sl true I] _ fun x r hw e => ?_
  obtain ⟨l, i⟩ := x
  cases e
  refine (r35 l i).trans ?_
  show _ = some (rlE (withinI l i).1 (withinI l i).2)
  unfold withinI
  cases ht : thereI l i != 0 with
  | true => rfl
  | false =>
    obtain ⟨_, _, _, b, es, q, a1, _, _, a4⟩ := within_ok (l := l) (i := i) (by simpa using ht)
    have hs : sml q.length = true := decide_eq_true (by omega)
    rw [a1]
    unfold contO
    simp only [hs]
    cases b <;> rfl
/-- What is within, in a word. -/
theorem within_mem {l : List Term.D} {i : Int} (ht : thereI l i = 0) : (withinI l i).2 = 0 ∧ (∀ x, x ∈ (withinI l i).1 ↔ Reach l i x) ∧ (withinI l i).1.Pairwise (· < ·) ∧ (∀ x ∈ (withinI l i).1, 0 ≤ x ∧ x ≤ i) := by
  obtain ⟨hg, h0, hi, b, es, q, a1, a2, a3, a4⟩ := within_ok ht
  have e : withinI l i = (sortI q, 0) := by
    unfold withinI
    rw [show (thereI l i != 0) = false by simpa using ht, a1]; rfl
  rw [e]
  refine ⟨rfl, fun x => ?_, ?_, fun x hx => a2.rng x (sortI_mem.1 hx)⟩
  · rw [sortI_mem]
    refine ⟨a2.rch x, fun hr => ?_⟩
    induction hr with
    | self => exact a2.mem
    | part _ hy ih => exact a3 _ ih _ hy
  · have h1 : (sortI q).Pairwise (fun a b => decide (a ≤ b) = true) := List.pairwise_mergeSort (fun a b c h1 h2 => by simp at *; omega) (fun a b => by simp; omega) q
    have h2 : (sortI q).Nodup := (List.mergeSort_perm q _).nodup_iff.2 a2.nd
    refine (h1.and h2).imp fun h => ?_
    have := h.1
    have := h.2
    simp at *
    omega
end Go.AM.Seat
