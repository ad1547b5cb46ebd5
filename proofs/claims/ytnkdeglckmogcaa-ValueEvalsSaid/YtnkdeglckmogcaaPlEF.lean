/- Plain laws: the definition's Eval is the code's own; the law ValueEvals. -/
import Derived.Test.YtnkdeglckmogcaaSeEF
import Derived.Test.YtnkdeglckmogcaaSe7
set_option linter.unusedVariables false
set_option linter.unusedSimpArgs false
set_option maxRecDepth 100000
namespace Go.AM.Seat
open Go Go.AM Go.Proofs

theorem len1_true {n : Int} {W W' : List Int} (h : len1 n W W' = true) : n = W.length ∧ (W.length : Int) ≤ 9223372036854775807 ∧ W' = W := by
  unfold len1 at h
  simp only [Bool.and_eq_true, decide_eq_true_eq] at h
  obtain ⟨⟨rfl, h2⟩, h3⟩ := h
  exact ⟨rfl, h2, h3⟩
theorem len1_of {W : List Int} (h : (W.length : Int) ≤ 9223372036854775807) : len1 W.length W W = true := by
  unfold len1
  rw [decide_eq_true (rfl : (W.length : Int) = W.length), decide_eq_true h, decide_eq_true (rfl : W = W)]; rfl
theorem idx_neg (p : Int → Bool) (xs : List Int) : decide (idxFrom p xs 0 < 0) = !xs.any p := by
  have := idx_any p xs 0 (Int.le_refl 0)
  rw [← this]
  by_cases h : idxFrom p xs 0 < 0
  · rw [decide_eq_true h, decide_eq_false (show ¬ idxFrom p xs 0 ≥ 0 by omega)]; rfl
  · rw [decide_eq_false h, decide_eq_true (show idxFrom p xs 0 ≥ 0 by omega)]; rfl
theorem parts_le (l : List Term.D) (k : Int) : ((partsL (tAt l k)).length : Int) ≤ 9223372036854775807 := by have := parts_len (tAt l k); omega
theorem loop43a : LoopP tb Γ43 Λ43 ⟨149, 0, live43⟩ (lkW F43 0) := by
  intro vs K out h
  have hcur : (lkW F43 0).1 = 0 := by kernel_rfl
  rw [hcur] at h ⊢
  unfold Λ43 at h
  split at h
  · rename_i l i g zs r W W' n _
    cases hc : (isZ9 zs && len1 n W W' && W.all (okP' l)) with
    | false => rw [hc] at h; cases h
    | true =>
      rw [hc] at h
      simp only [Bool.and_eq_true] at hc
      obtain ⟨⟨hz, h1⟩, hall⟩ := hc
      obtain rfl := isZ9_eq hz
      obtain ⟨rfl, hmax, rfl⟩ := len1_true h1
      have fin : ∃ fuel, l43 0 0 Λ43 K fuel (c0 l i g r W' W'.length 0) = some out := findLoop (xs := W') (p := shP l) (F := fun fuel j => l43 0 0 Λ43 K fuel (c0 l i g r W' W'.length j)) (E := K (.exit 0) (c0 l i g r W' W'.length W'.length)) (R := fun x => K .ret (c0 l i g 1 W' W'.length x)) (fun fuel => ?_) (fun fuel j hj => ?_) h
      exact fin
      · show l43 0 0 Λ43 K (fuel + 1) _ = _
        rw [step43a, nlt_dec]; rfl
      · show l43 0 0 Λ43 K (fuel + 1) _ = _
        have hok : okP' l (iX W' j) = true := List.all_eq_true.1 hall _ (by rw [iX_nat hj]; exact List.getElem_mem hj)
        unfold okP' at hok
        simp only [Bool.and_eq_true] at hok
        rw [step43a, lt_dec hj, inB_lt hj, hok.1, hok.2, len1_of (parts_le _ _), decide_eq_true (rfl : W' = W'), wrap64 (n := (j : Int) + 1) (by omega) (by omega), idx_neg]
        unfold shP
        cases (partsL (tAt l (iX W' j))).any (k5 l) <;> rfl
  · exact absurd (show (0 : Nat) = 2 by assumption) (by decide)
  · exact absurd (show (0 : Nat) = 4 by assumption) (by decide)
  · exact absurd (show (0 : Nat) = 6 by assumption) (by decide)
  · cases h
theorem loop43b : LoopP tb Γ43 Λ43 ⟨149, 0, live43⟩ (lkW F43 1) := by
  intro vs K out h
  have hcur : (lkW F43 1).1 = 2 := by kernel_rfl
  rw [hcur] at h ⊢
  unfold Λ43 at h
  split at h
  · exact absurd (show (2 : Nat) = 0 by assumption) (by decide)
  · rename_i l i g zs r W W' n j ps m _
    cases hc : (isZ9 zs && len1 m ps ps && decide (W' = W) && ps.all (inL' l)) with
    | false => rw [hc] at h; cases h
    | true =>
      rw [hc] at h
      simp only [Bool.and_eq_true, decide_eq_true_eq] at hc
      obtain ⟨⟨⟨hz, h1⟩, rfl⟩, hall⟩ := hc
      obtain rfl := isZ9_eq hz
      obtain ⟨rfl, hmax, _⟩ := len1_true h1
      have fin : ∃ fuel, l43 1 2 Λ43 K fuel (c2 l i g r W' n j ps ps.length 0) = some out := findLoop (xs := ps) (p := k5 l) (F := fun fuel k => l43 1 2 Λ43 K fuel (c2 l i g r W' n j ps ps.length k)) (E := K (.exit 2) (c2 l i g r W' n j ps ps.length ps.length)) (R := fun x => K .ret (c2 l i g 1 W' n j ps ps.length x)) (fun fuel => ?_) (fun fuel k hk => ?_) h
      exact fin
      · show l43 1 2 Λ43 K (fuel + 1) _ = _
        rw [step43b, nlt_dec]; rfl
      · show l43 1 2 Λ43 K (fuel + 1) _ = _
        have hok : inB (iX ps k) l.length = true := List.all_eq_true.1 hall _ (by rw [iX_nat hk]; exact List.getElem_mem hk)
        rw [step43b, lt_dec hk, inB_lt hk, hok, wrap64 (n := (k : Int) + 1) (by omega) (by omega)]
        rfl
  · exact absurd (show (2 : Nat) = 4 by assumption) (by decide)
  · exact absurd (show (2 : Nat) = 6 by assumption) (by decide)
  · cases h
theorem loop43c : LoopP tb Γ43 Λ43 ⟨149, 0, live43⟩ (lkW F43 2) := by
  intro vs K out h
  have hcur : (lkW F43 2).1 = 4 := by kernel_rfl
  rw [hcur] at h ⊢
  unfold Λ43 at h
  split at h
  · exact absurd (show (4 : Nat) = 0 by assumption) (by decide)
  · exact absurd (show (4 : Nat) = 2 by assumption) (by decide)
  · rename_i l i g zs r W W' n _
    cases hc : (isZ9 zs && len1 n W W' && W.all (inL' l)) with
    | false => rw [hc] at h; cases h
    | true =>
      rw [hc] at h
      simp only [Bool.and_eq_true] at hc
      obtain ⟨⟨hz, h1⟩, hall⟩ := hc
      obtain rfl := isZ9_eq hz
      obtain ⟨rfl, hmax, rfl⟩ := len1_true h1
      have fin : ∃ fuel, l43 2 4 Λ43 K fuel (c0 l i g r W' W'.length 0) = some out := findLoop (xs := W') (p := (q81 l g).2) (F := fun fuel j => l43 2 4 Λ43 K fuel (c0 l i g r W' W'.length j)) (E := K (.exit 4) (c0 l i g r W' W'.length W'.length)) (R := fun x => K .ret (c0 l i g 4 W' W'.length x)) (fun fuel => ?_) (fun fuel j hj => ?_) h
      exact fin
      · show l43 2 4 Λ43 K (fuel + 1) _ = _
        rw [step43c, nlt_dec]; rfl
      · show l43 2 4 Λ43 K (fuel + 1) _ = _
        have hok : inB (iX W' j) l.length = true := List.all_eq_true.1 hall _ (by rw [iX_nat hj]; exact List.getElem_mem hj)
        rw [step43c, lt_dec hj, inB_lt hj, hok, wrap64 (n := (j : Int) + 1) (by omega) (by omega)]
        rfl
  · exact absurd (show (4 : Nat) = 6 by assumption) (by decide)
  · cases h
theorem loop43d : LoopP tb Γ43 Λ43 ⟨149, 0, live43⟩ (lkW F43 3) := by
  intro vs K out h
  have hcur : (lkW F43 3).1 = 6 := by kernel_rfl
  rw [hcur] at h ⊢
  unfold Λ43 at h
  split at h
  · exact absurd (show (6 : Nat) = 0 by assumption) (by decide)
  · exact absurd (show (6 : Nat) = 2 by assumption) (by decide)
  · exact absurd (show (6 : Nat) = 4 by assumption) (by decide)
  · rename_i l i g zs r a W n _
    cases hc : (isZ9 zs && len1 n W W && W.all (okG a.length l g)) with
    | false => rw [hc] at h; cases h
    | true =>
      rw [hc] at h
      simp only [cond_true] at h
      simp only [Bool.and_eq_true] at hc
      obtain ⟨⟨hz, h1⟩, hall⟩ := hc
      obtain rfl := isZ9_eq hz
      obtain ⟨rfl, hmax, _⟩ := len1_true h1
      obtain ⟨M, hM⟩ : ∃ M, M = a.length := ⟨_, rfl⟩
      rw [← hM] at hall
      have key : ∀ (m j : Nat) (a : List Value.D), j + m = W.length → M = a.length → K (.exit 6) (c6 l i g r (evG l g (W.drop j) a) W W.length W.length) = some out → ∃ fuel, l43 3 6 Λ43 K fuel (c6 l i g r a W W.length j) = some out := by
        intro m
        induction m with
        | zero =>
          intro j a hj _ h
          obtain rfl : j = W.length := by omega
          rw [List.drop_length] at h
          exact ⟨1, by rw [step43d, nlt_dec]; exact h⟩
        | succ m ih =>
          intro j a hj hM h
          have hlt : j < W.length := by omega
          have hok : okG M l g (iX W j) = true := List.all_eq_true.1 hall _ (by rw [iX_nat hlt]; exact List.getElem_mem hlt)
          rw [iX_cons hlt] at h
          obtain ⟨fuel, hf⟩ := ih (j + 1) _ (by omega) (by rw [List.length_set]; exact hM) h
          refine ⟨fuel + 1, ?_⟩
          rw [step43d, lt_dec hlt, inB_lt hlt, wrap64 (n := (j : Int) + 1) (by omega) (by omega)]
          unfold okG at hok
          rw [hM] at hok
          simp only [Bool.and_eq_true] at hok
          obtain ⟨k1, k2, k3⟩ := hok
          rw [k1]
          unfold plainW at hf
          cases e1 : (tAt l (iX W j)).1 == 1 with
          | true =>
            rw [e1] at k2 hf
            simp only [cond_true] at k2 hf ⊢
            rw [k2, k3]; exact hf
          | false =>
            cases e5 : (tAt l (iX W j)).1 == 5 with
            | true =>
              rw [e1, e5] at k2 hf
              simp only [cond_true, cond_false, Bool.and_eq_true] at k2 hf ⊢
              rw [k2.1, k2.2, k3]; exact hf
            | false =>
              rw [e1, e5] at k2 hf
              simp only [cond_true, cond_false] at k2 hf ⊢
              rw [k2, k3]; exact hf
      exact key W.length 0 a (by omega) hM h
  · cases h
theorem fourLoops {ρ : Type} [Same ρ] {Γ : Orc} {Λ : Lam ρ} {ms : Lay} {c : Code} {p0 p1 p2 p3 : Nat × Code} (h : loopsOf 0 c = [p0, p1, p2, p3]) (h0 : LoopP tb Γ Λ ms p0) (h1 : LoopP tb Γ Λ ms p1) (h2 : LoopP tb Γ Λ ms p2) (h3 : LoopP tb Γ Λ ms p3) : ∀ p ∈ loopsOf 0 c, LoopP tb Γ Λ ms p := by
  rw [h]; intro p hp
  rcases List.mem_cons.1 hp with rfl | hp
  · exact h0
  rcases List.mem_cons.1 hp with rfl | hp
  · exact h1
  rcases List.mem_cons.1 hp with rfl | hp
  · exact h2
  · rw [List.mem_singleton.1 hp]; exact h3
/-! ### what it comes to -/
theorem vA_set {a : List Value.D} {k x : Int} {v : Value.D} (hk : 0 ≤ k) (hl : k < a.length) (hx : 0 ≤ x) : vA (a.set k.toNat v) x = if x = k then v else vA a x := by
  unfold vA
  rw [List.getD_eq_getElem?_getD, List.getD_eq_getElem?_getD, List.getElem?_set]
  by_cases h : x = k
  · subst h; rw [if_pos rfl, if_pos rfl, if_pos (show x.toNat < a.length by omega)]; rfl
  · rw [if_neg h, if_neg (show ¬ k.toNat = x.toNat by omega)]
theorem evG_len {l : List Term.D} {g : List Block.D} : ∀ {ks : List Int} {a : List Value.D}, (evG l g ks a).length = a.length := by
  intro ks
  induction ks with
  | nil => intro a; rfl
  | cons k ks ih => intro a; simp only [evG]; rw [ih, List.length_set]
theorem evG_spec {l : List Term.D} (hg : GoodL l) (g : List Block.D) : ∀ (ks : List Int) (a : List Value.D), (∀ k ∈ ks, 0 ≤ k ∧ k < (l.length : Int) ∧ k < (a.length : Int)) → ks.Pairwise (· < ·) →
    (∀ k ∈ ks, ∀ p ∈ partsL (tAt l k), p ∈ ks ∨ vA a p = valT l g p) → ∀ x, 0 ≤ x → (x ∈ ks ∨ vA a x = valT l g x) → vA (evG l g ks a) x = valT l g x := by
  intro ks
  induction ks with
  | nil => intro a _ _ _ x _ hx; exact hx.resolve_left (by simp)
  | cons k ks ih =>
    intro a hr hs hp x x0 hx
    simp only [evG]
    have hk := hr k (by simp)
    have hs' := List.pairwise_cons.1 hs
    have hval : plainW (vA a) (tAt l k) g = valT l g k := by
      rw [valT_eq hg g hk.1 hk.2.1]
      refine plainW_congr (kinds hg hk.1 hk.2.1) (fun p hpp => ?_) g
      rcases hp k (by simp) p hpp with h | h
      · have h5 := parts_lt hg hk.1 hk.2.1 p hpp
        rcases List.mem_cons.1 h with rfl | h
        · omega
        · have := hs'.1 p h; omega
      · exact h
    have up : ∀ y, 0 ≤ y → vA a y = valT l g y → vA (a.set k.toNat (plainW (vA a) (tAt l k) g)) y = valT l g y := by
      intro y y0 hy
      rw [vA_set hk.1 hk.2.2 y0, hval]
      by_cases h : y = k
      · rw [if_pos h, h]
      · rw [if_neg h, hy]
    have self : vA (a.set k.toNat (plainW (vA a) (tAt l k) g)) k = valT l g k := by rw [vA_set hk.1 hk.2.2 hk.1, if_pos rfl, hval]
    refine ih _ (fun y hy => by rw [List.length_set]; exact hr y (by simp [hy])) hs'.2 (fun y hy p hpp => ?_) x x0 ?_
    · have hy' := hr y (by simp [hy])
      have hp0 := (parts_lt hg hy'.1 hy'.2.1 p hpp).1
      rcases hp y (by simp [hy]) p hpp with h | h
      · rcases List.mem_cons.1 h with rfl | h
        · exact .inr self
        · exact .inl h
      · exact .inr (up p hp0 h)
    · rcases hx with hx | hx
      · rcases List.mem_cons.1 hx with rfl | hx
        · exact .inr self
        · exact .inl hx
      · exact .inr (up x x0 hx)
theorem atom_pos {l : List Term.D} (hg : GoodL l) {x : Int} (h0 : 0 ≤ x) (h1 : x < l.length) (hk : (tAt l x).1 = 1) : 0 ≤ (tAt l x).2.1 := by
  obtain ⟨n, rfl⟩ := Int.eq_ofNat_of_zero_le h0
  have hn : n < l.length := by omega
  have hm := (hg.2 n _ (List.getElem?_eq_getElem hn)).1
  rw [tAt_get (List.getElem?_eq_getElem hn)] at hk ⊢
  unfold mayB at hm
  cases hb : mayBad l[n] with
  | true => rw [hb] at hm; cases hm
  | false =>
    rw [hb, show (l[n].1 == 1) = true by rw [hk]; rfl] at hm
    simp only [cond_false, cond_true] at hm
    cases h7 : decide (l[n].2.1 ≥ 0) with
    | false => rw [h7] at hm; cases hm
    | true => exact of_decide_eq_true h7
theorem r43_eval (l : List Term.D) (i : Int) (g : List Block.D) : run Γ43 Λ43 live43 F43 (encA [.v (.sl Term), .v I, .v (.sl Block)] (l, i, g)) [] = some (veR (evalI l i g).1 (evalI l i g).2) := by
  rw [r43]
  rcases Classical.em (thereI l i = 0) with ht | ht
  · obtain ⟨w1, w2, w3, w4⟩ := within_mem ht
    obtain ⟨hg, h0, hi⟩ := there_iff.1 ht
    have hmx := hg.1
    have hcases := eval_cases g ht
    have h80 : (withinI l i).1.any (q80 l i).2 = (withinI l i).1.any (shP l) := by
      rw [Bool.eq_iff_iff, within_anyC ht, within_anyC ht]
      constructor
      · rintro ⟨k, k1, k2⟩
        unfold q80 at k2
        simp only at k2
        cases h5 : (tAt l k).1 == 5 with
        | false => rw [h5] at k2; cases k2
        | true =>
          rw [h5] at k2
          have hne : k ≠ i := by simpa using k2
          cases k1 with
          | self => exact absurd rfl hne
          | @part x y hx hy => exact ⟨x, hx, List.any_eq_true.2 ⟨k, hy, h5⟩⟩
      · rintro ⟨k, k1, k2⟩
        obtain ⟨p, hp, hp5⟩ := List.any_eq_true.1 k2
        refine ⟨p, .part k1 hp, ?_⟩
        have hkr := reach_rng hg h0 hi k1
        have hpl := parts_lt hg hkr.1 (by omega) p hp
        unfold q80
        simp only
        unfold k5 at hp5
        rw [hp5]
        simp
        omega
    obtain ⟨W, hW⟩ : ∃ W, W = (withinI l i).1 := ⟨_, rfl⟩
    have hmem : ∀ x ∈ W, Reach l i x := fun x hx => (w2 x).1 (hW ▸ hx)
    have hin : ∀ x ∈ W, inB x l.length = true := fun x hx => by have := w4 x (hW ▸ hx); exact inB_of this.1 (by omega)
    have hlen := nodup_len (i.toNat + 1) W (by rw [hW]; exact w3.imp fun h => by omega) fun x hx => by have := w4 x (hW ▸ hx); omega
    have hl1 : len1 W.length W W = true := len1_of (by omega)
    have hallP : W.all (okP' l) = true := List.all_eq_true.2 fun x hx => by
      unfold okP'
      have hr := w4 x (hW ▸ hx)
      rw [hin x hx, show (partsL (tAt l x)).all (inL' l) = true from List.all_eq_true.2 fun p hp => by
        have := parts_lt hg hr.1 (by omega) p hp
        exact inB_of this.1 (by omega)]; rfl
    have hallL : W.all (inL' l) = true := List.all_eq_true.2 hin
    have hev : evalI l i g = bif W.any (shP l) then (zeroV, 1) else bif W.any (q81 l g).2 then (zeroV, 4) else (vOf (evF l g W []) i, 0) := by
      have e0 : evalI l i g = bif (withinI l i).2 != 0 then (zeroV, (withinI l i).2) else bif (withinI l i).1.any (q80 l i).2 then (zeroV, 1) else bif (withinI l i).1.any (q81 l g).2 then (zeroV, 4) else (vOf (evF l g (withinI l i).1 []) i, 0) := rfl
      rw [e0, w1, h80, ← hW]; rfl
    rw [← hW] at w2 w3 w4
    rw [w1, ← hW, hl1, hallP, hallL, idx_neg, idx_neg]
    cases hsh : W.any (shP l) with
    | true => rw [hev, hsh]; rfl
    | false =>
      cases h81 : W.any (q81 l g).2 with
      | true => rw [hev, hsh, h81]; rfl
      | false =>
        have hw : IntKind.i64.wrap (i + 1) = i + 1 := wrap64 (by omega) (by omega)
        have hok81 : ok81 i = true := by
          unfold ok81
          rw [hw, decide_eq_true (show 0 ≤ i + 1 by omega), decide_eq_true (Int.le_refl _), decide_eq_true (show (64 : Int) * (i + 1) ≤ 281474976710656 by omega)]; rfl
        have hal : (a0 i).length = i.toNat + 1 := by unfold a0; rw [hw, List.length_replicate]; omega
        have hclear : Clear l i g := by
          rcases hcases with ⟨h, _⟩ | ⟨_, h⟩
          · exact h
          · rw [hev, hsh, h81] at h
            have := congrArg Prod.snd h
            simp only [cond_false] at this
            cases hq : (withinI l i).1.any (q80 l i).2 <;> rw [hq] at this <;> exact absurd this (by decide)
        have hallG : W.all (okG (a0 i).length l g) = true := List.all_eq_true.2 fun x hx => by
          have hr := w4 x hx
          have hxl : x < (l.length : Int) := by omega
          unfold okG
          rw [hin x hx, hal, inB_of hr.1 (show x < ((i.toNat + 1 : Nat) : Int) by omega)]
          simp only [Bool.true_and, Bool.and_true]
          have hps := parts_lt hg hr.1 hxl
          rcases kinds hg hr.1 hxl with e | e
          · rw [show ((tAt l x).1 == 1) = true by rw [e]; rfl]
            exact inB_of (atom_pos hg hr.1 hxl e) ((hclear x (hmem x hx)).2 e)
          · have e1 : ((tAt l x).1 == 1) = false := by rcases e with e | e | e | e <;> rw [e] <;> rfl
            rw [e1]
            simp only [cond_false]
            rw [parts_of] at hps
            rcases e with e | e | e | e
            · rw [if_pos (.inl e)] at hps
              have := hps _ (List.mem_singleton.2 rfl)
              rw [show ((tAt l x).1 == 5) = false by rw [e]; rfl]
              exact inB_of this.1 (Int.lt_of_lt_of_le this.2 (by omega))
            · rw [if_pos (.inr (.inl e))] at hps
              have := hps _ (List.mem_singleton.2 rfl)
              rw [show ((tAt l x).1 == 5) = false by rw [e]; rfl]
              exact inB_of this.1 (Int.lt_of_lt_of_le this.2 (by omega))
            · rw [if_pos (.inr (.inr e))] at hps
              have := hps _ (List.mem_singleton.2 rfl)
              rw [show ((tAt l x).1 == 5) = false by rw [e]; rfl]
              exact inB_of this.1 (Int.lt_of_lt_of_le this.2 (by omega))
            · rw [if_neg (by rw [e]; decide), if_pos e] at hps
              have h1 := hps (tAt l x).2.1 (by simp)
              have h2 := hps (tAt l x).2.2 (by simp)
              rw [show ((tAt l x).1 == 5) = true by rw [e]; rfl]
              simp only [cond_true]
              rw [inB_of h1.1 (Int.lt_of_lt_of_le h1.2 (show x ≤ ((i.toNat + 1 : Nat) : Int) by omega)), inB_of h2.1 (Int.lt_of_lt_of_le h2.2 (show x ≤ ((i.toNat + 1 : Nat) : Int) by omega))]; rfl
        rw [hok81, hallG, show inB i (evG l g W (a0 i)).length = true by rw [evG_len, hal]; exact inB_of h0 (by omega)]
        have hv : vA (evG l g W (a0 i)) i = valT l g i := evG_spec hg g W (a0 i) (fun k hk => by have := w4 k hk; rw [hal]; omega) w3 (fun k hk p hp => .inl ((w2 p).2 (.part ((w2 k).1 hk) hp))) i h0 (.inl ((w2 i).2 .self))
        have he := eval_clear ht hclear
        rw [he, hv]; rfl
  · rw [eval_none ht]
    rcases thereI_or (l := l) (i := i) with h | ⟨h1, h2⟩
    · exact absurd h ht
    · rw [h1, show ((([] : List Int), thereI l i).2 != 0) = true by simpa using h2]; rfl
theorem g43 : GoodS Try.prog N43 s42 := by
  refine good (.cons g83 (.cons g36 (.cons g57 (.cons g55 (.nil _))))) H43 rfl (by kernel_rfl) Λ43 live43 (fourLoops (p0 := lkW F43 0) (p1 := lkW F43 1) (p2 := lkW F43 2) (p3 := lkW F43 3) (by kernel_rfl) loop43a loop43b loop43c loop43d) [.v (.sl Term), .v I, .v (.sl Block)] (by decide) [] _ fun x r hw e => ?_
  obtain ⟨l, i, g⟩ := x
  cases e
  exact r43_eval l i g
/-! ### the law -/
def Γ13v : Orc := orc [(N16, s16), (N42, s42), (N43, s42)]
theorem r13v (l : List Term.D) (i : Int) (g : List Block.D) : run Γ13v noL [] F13 (encA [.v (.sl Term), .v I, .v (.sl Block)] (l, i, g)) [] =
    bif bif decide ((l.length : Int) > 60) then true else decide ((g.length : Int) > 300) then B true else
    B (bif valEq (evalI l i g).1 (evalI l i g).1 then (evalI l i g).2 == (evalI l i g).2 else false) := by kernel_rfl
theorem good13v (x : ADen [.v (.sl Term), .v I, .v (.sl Block)]) : Good Try.prog N13 (encA [.v (.sl Term), .v I, .v (.sl Block)] x) (.one (.bool true)) := by
  have g : GoodS Try.prog N13 (.fn [.v (.sl Term), .v I, .v (.sl Block)] fun _ => (true, .one (.bool true))) := by
    refine good (.cons g16 (.cons g42 (.cons g43 (.nil _)))) H13 rfl (by kernel_rfl) noL [] (noLoops (by kernel_rfl)) [.v (.sl Term), .v I, .v (.sl Block)] (by decide) [] _ fun x r hw h => ?_
    obtain ⟨l, i, g⟩ := x
    cases h
    refine (r13v l i g).trans ?_
    cases bif decide ((l.length : Int) > 60) then true else decide ((g.length : Int) > 300) with
    | true => rfl
    | false =>
      rw [valEq_iff.2 rfl]
      show B ((evalI l i g).2 == (evalI l i g).2) = _
      rw [beq_self_eq_true]; rfl
  exact g.2.1 _ _ (by kernel_rfl)
end Go.AM.Seat
