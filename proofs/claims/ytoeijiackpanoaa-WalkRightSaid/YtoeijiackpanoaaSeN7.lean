/- The seat: contracts: a leaf's pairs. -/
import Derived.Test.YtoeijiackpanoaaSeN5
set_option linter.unusedVariables false
set_option maxRecDepth 100000
namespace Go.AM.Seat
open Go Go.AM Go.Proofs

abbrev lv310 : List (Nat × Dir) := [(0, .keep), (1, .keep), (10, .keep), (12, .arr Subset)]
abbrev live310 : List (Nat × List (Nat × Dir)) := [(0, lv310 ++ [(42, .keep), (43, .keep)]), (2, lv310 ++ [(61, .keep), (62, .keep)]), (4, lv310 ++ [(14, .keep), (15, .keep), (61, .keep), (62, .keep)])]
def Γ310 : Orc := orc [(N326, s326), (N323, s323), (N327, s327)]
def loopK (f : Func) (k : Nat) : Nat × Code := (loopsOf 0 (body f)).getD k (0, .skip)
def vsA (h k leaf : Int) (out : List Subset.D) : List AV := [.one (.int .i64 h), .one (.int .i64 k), .one (.int .u64 leaf), .arr true Subset out]
theorem threeLoops {Γ : Orc} {Λ : Lam AV} {ms : Lay} {c : Code} {p0 p1 p2 : Nat × Code} (h : loopsOf 0 c = [p0, p1, p2]) (h0 : LoopP tb Γ Λ ms p0) (h1 : LoopP tb Γ Λ ms p1) (h2 : LoopP tb Γ Λ ms p2) : ∀ p ∈ loopsOf 0 c, LoopP tb Γ Λ ms p := by
  rw [h]; intro p hp
  rcases List.mem_cons.1 hp with rfl | hp
  · exact h0
  · rcases List.mem_cons.1 hp with rfl | hp
    · exact h1
    · rw [List.mem_singleton.1 hp]; exact h2
def wG (h leaf : Int) : Nat → Nat → List Subset.D → List Subset.D
  | 0, _, out => out
  | m + 1, j, out => wG h leaf m (j + 1) (out ++ [(shrI leaf (h - j), 0)])
def prP (h leaf t d : Int) : Int × Int := (shrI leaf (h - t), xorI (shrI leaf (h - d)) 1)
def keepB (h k : Int) (s : Int × Int) : Bool := bif k == 3 then !(bif (useI h s).2 != 0 then true else !(useI h s).1) else true
def inG (h k leaf : Int) (t : Nat) : Nat → Nat → List Subset.D → List Subset.D
  | 0, _, out => out
  | m + 1, d, out => inG h k leaf t m (d + 1) (bif keepB h k (prP h leaf t d) then out ++ [prP h leaf t d] else out)
def outG (h k leaf : Int) : Nat → Nat → List Subset.D → List Subset.D
  | 0, _, out => out
  | m + 1, t, out => outG h k leaf m (t + 1) (inG h k leaf t (h.toNat - t) (t + 1) out)
def c4 (h t d : Int) (out : List Subset.D) : Bool := decide (1 ≤ h) && decide (h ≤ 32) && decide (0 ≤ t) && decide (t < h) && decide (d = t + 1) && decide (out.length ≤ 2000)
def vs0 (h k leaf n i : Int) (out : List Subset.D) : List AV := vsA h k leaf out ++ [.one (.int .i64 n), .one (.int .i64 i)]
def vs4' (h k leaf t d n i : Int) (out : List Subset.D) : List AV := vsA h k leaf out ++ [.one (.int .i64 t), .one (.int .i64 d), .one (.int .i64 n), .one (.int .i64 i)]
def Λ310 : Lam AV := fun cur vs K =>
  match cur, vs with
  | 0, [.one (.int .i64 h), .one (.int .i64 k), .one (.int .u64 leaf), .arr true (.pair (.int .u64) (.int .u64)) [], .one (.int .i64 n), .one (.int .i64 0)] =>
    bif decide (1 ≤ h) && decide (h ≤ 32) && decide (n = h + 1) then K (.exit 0) (vs0 h k leaf n n (wG h leaf (h.toNat + 1) 0 [])) else none
  | 2, [.one (.int .i64 h), .one (.int .i64 k), .one (.int .u64 leaf), .arr true (.pair (.int .u64) (.int .u64)) out, .one (.int .i64 n), .one (.int .i64 0)] =>
    bif decide (1 ≤ h) && decide (h ≤ 32) && decide (n = h) && decide (out.length ≤ 1) then K (.exit 2) (vs0 h k leaf n n (outG h k leaf h.toNat 0 out)) else none
  | 4, [.one (.int .i64 h), .one (.int .i64 k), .one (.int .u64 leaf), .arr true (.pair (.int .u64) (.int .u64)) out, .one (.int .i64 t), .one (.int .i64 d), .one (.int .i64 n), .one (.int .i64 i)] =>
    bif c4 h t d out then K (.exit 4) (vs4' h k leaf t (h + 1) n i (inG h k leaf t.toNat (h.toNat - t.toNat) d.toNat out)) else none
  | _, _ => none
noncomputable abbrev lp0 (K : AE → List AV → Option AV) (fuel : Nat) (vs : List AV) : Option AV := loopN (aexec tb Γ310 Λ310 ⟨104, 0, live310⟩ (loopK F310 0).2 0) 104 0 (lv310 ++ [(42, .keep), (43, .keep)]) K fuel vs
noncomputable abbrev lp2 (K : AE → List AV → Option AV) (fuel : Nat) (vs : List AV) : Option AV := loopN (aexec tb Γ310 Λ310 ⟨104, 0, live310⟩ (loopK F310 1).2 2) 104 0 (lv310 ++ [(61, .keep), (62, .keep)]) K fuel vs
noncomputable abbrev lp4 (K : AE → List AV → Option AV) (fuel : Nat) (vs : List AV) : Option AV := loopN (aexec tb Γ310 Λ310 ⟨104, 0, live310⟩ (loopK F310 2).2 4) 104 0 (lv310 ++ [(14, .keep), (15, .keep), (61, .keep), (62, .keep)]) K fuel vs
theorem step0 (h k leaf n i : Int) (out : List Subset.D) (fuel : Nat) (K : AE → List AV → Option AV) : lp0 K (fuel + 1) (vs0 h k leaf n i out) =
    bif decide (i < n) then bif decide (0 ≤ IntKind.i64.wrap (h - i)) then bif decide ((out.length + 1) * 16 ≤ 140737488355328) then
      lp0 K fuel (vs0 h k leaf n (IntKind.i64.wrap (i + 1)) (out ++ [(shrI leaf (IntKind.i64.wrap (h - i)), 0)])) else none else none else K (.exit 0) (vs0 h k leaf n i out) := by kernel_rfl
def prW (h leaf t d : Int) : Int × Int := (shrI leaf (IntKind.i64.wrap (h - t)), xorI (shrI leaf (IntKind.i64.wrap (h - d))) 1)
theorem step4 (h k leaf t d n i : Int) (out : List Subset.D) (fuel : Nat) (K : AE → List AV → Option AV) : lp4 K (fuel + 1) (vs4' h k leaf t d n i out) =
    bif decide (d ≤ h) then bif decide (0 ≤ IntKind.i64.wrap (h - t)) then bif decide (0 ≤ IntKind.i64.wrap (h - d)) then
      bif k == 3 then
        bif (bif (useI h (prW h leaf t d)).2 != 0 then true else !(useI h (prW h leaf t d)).1) then lp4 K fuel (vs4' h k leaf t (IntKind.i64.wrap (d + 1)) n i out)
        else bif decide ((out.length + 1) * 16 ≤ 140737488355328) then lp4 K fuel (vs4' h k leaf t (IntKind.i64.wrap (d + 1)) n i (out ++ [prW h leaf t d])) else none
      else bif decide ((out.length + 1) * 16 ≤ 140737488355328) then lp4 K fuel (vs4' h k leaf t (IntKind.i64.wrap (d + 1)) n i (out ++ [prW h leaf t d])) else none
    else none else none else K (.exit 4) (vs4' h k leaf t d n i out) := by kernel_rfl
theorem step2 (h k leaf n i : Int) (out : List Subset.D) (fuel : Nat) (K : AE → List AV → Option AV) : lp2 K (fuel + 1) (vs0 h k leaf n i out) =
    bif decide (i < n) then bif c4 h i (IntKind.i64.wrap (i + 1)) out then
      lp2 K fuel (vs0 h k leaf n (IntKind.i64.wrap (i + 1)) (inG h k leaf i.toNat (h.toNat - i.toNat) (IntKind.i64.wrap (i + 1)).toNat out)) else none else K (.exit 2) (vs0 h k leaf n i out) := by kernel_rfl
/-- Loops that count up, with what holds at each place. -/
theorem upLoopI {α : Type} {n : Nat} {F : Nat → α → Int → Option AV} {G : Nat → α → Option AV} {Inv : Nat → α → Prop} (h1 : ∀ fuel a, F (fuel + 1) a n = G n a)
    (h2 : ∀ a (j : Nat), j < n → Inv j a → (∃ a', Inv (j + 1) a' ∧ (∀ fuel, F (fuel + 1) a j = F fuel a' ((j + 1 : Nat) : Int)) ∧ G j a = G (j + 1) a') ∨ (∀ fuel, F (fuel + 1) a j = G j a)) :
    ∀ (m j : Nat) (a : α) (out : AV), j + m = n → Inv j a → G j a = some out → ∃ fuel, F fuel a j = some out := by
  intro m
  induction m with
  | zero =>
    intro j a out hj _ h
    obtain rfl : j = n := by omega
    exact ⟨1, (h1 0 a).trans h⟩
  | succ m ih =>
    intro j a out hj hi h
    rcases h2 a j (by omega) hi with ⟨a', g0, g1, g2⟩ | g
    · obtain ⟨fuel, hf⟩ := ih (j + 1) a' out (by omega) g0 (g2 ▸ h)
      exact ⟨fuel + 1, (g1 fuel).trans hf⟩
    · exact ⟨1, (g 0).trans h⟩
theorem len_ok {n : Nat} (h : n ≤ 5000) : decide ((n + 1) * 16 ≤ 140737488355328) = true := decide_eq_true (by omega)
theorem sub_wrap {H j : Nat} (h1 : H ≤ 32) (h2 : j ≤ H) : IntKind.i64.wrap ((H : Int) - (j : Int)) = (H : Int) - (j : Int) ∧ decide (0 ≤ (H : Int) - (j : Int)) = true := ⟨wrap64 (by omega) (by omega), decide_eq_true (by omega)⟩
theorem inG_len (h k leaf : Int) (t : Nat) : ∀ (m d : Nat) (out : List Subset.D), (inG h k leaf t m d out).length ≤ out.length + m := by
  intro m
  induction m with
  | zero => intro d out; exact Nat.le_refl _
  | succ m ih =>
    intro d out
    refine Nat.le_trans (ih _ _) ?_
    cases keepB h k (prP h leaf t d) <;> simp <;> omega
theorem loop310a : LoopP tb Γ310 Λ310 ⟨104, 0, live310⟩ (loopK F310 0) := by
  intro vs K out e
  have hcur : (loopK F310 0).1 = 0 := by kernel_rfl
  rw [hcur] at e ⊢
  unfold Λ310 at e
  split at e
  · rename_i h k leaf n _
    cases hc : (decide (1 ≤ h) && decide (h ≤ 32) && decide (n = h + 1)) with
    | false => rw [hc] at e; cases e
    | true =>
      rw [hc] at e
      simp only [cond_true] at e
      simp only [Bool.and_eq_true, decide_eq_true_eq] at hc
      obtain ⟨⟨h1, h2⟩, rfl⟩ := hc
      obtain ⟨H, rfl⟩ := Int.eq_ofNat_of_zero_le (show 0 ≤ h by omega)
      refine upLoopI (α := List Subset.D) (n := H + 1) (F := fun fuel out i => lp0 K fuel (vs0 H k leaf ((H + 1 : Nat) : Int) i out))
        (G := fun j out => K (.exit 0) (vs0 H k leaf ((H + 1 : Nat) : Int) ((H + 1 : Nat) : Int) (wG H leaf (H + 1 - j) j out))) (Inv := fun j out => out.length ≤ j) (fun fuel out => ?_) (fun out j hj hi => ?_) (H + 1) 0 [] out (by omega) (Nat.le_refl 0) e
      · simp only [step0, nlt_dec, cond_false, Nat.sub_self, wG]
      · left
        obtain ⟨e1, e2⟩ := sub_wrap (H := H) (j := j) (by omega) (by omega)
        refine ⟨out ++ [(shrI leaf ((H : Int) - (j : Int)), 0)], by simp; omega, fun fuel => ?_, ?_⟩
        · simp only [step0, lt_dec hj, cond_true, e1, e2, len_ok (show out.length ≤ 5000 by omega)]
          rw [wrap64 (n := (j : Int) + 1) (by omega) (by omega)]; rfl
        · have : H + 1 - j = (H + 1 - (j + 1)) + 1 := by omega
          rw [this, wG]
  · rename_i hh; cases hh
  · rename_i hh; cases hh
  · cases e
theorem loop310c : LoopP tb Γ310 Λ310 ⟨104, 0, live310⟩ (loopK F310 2) := by
  intro vs K out e
  have hcur : (loopK F310 2).1 = 4 := by kernel_rfl
  rw [hcur] at e ⊢
  unfold Λ310 at e
  split at e
  · rename_i hh; cases hh
  · rename_i hh; cases hh
  · rename_i h k leaf o0 t d n i _
    cases hc : c4 h t d o0 with
    | false => rw [hc] at e; cases e
    | true =>
      rw [hc] at e
      simp only [cond_true] at e
      simp only [c4, Bool.and_eq_true, decide_eq_true_eq] at hc
      obtain ⟨⟨⟨⟨⟨h1, h2⟩, h3⟩, h4⟩, rfl⟩, h6⟩ := hc
      obtain ⟨H, rfl⟩ := Int.eq_ofNat_of_zero_le (show 0 ≤ h by omega)
      obtain ⟨T, rfl⟩ := Int.eq_ofNat_of_zero_le h3
      obtain ⟨a1, a2⟩ := sub_wrap (H := H) (j := T) (by omega) (by omega)
      have e : K (.exit 4) (vs4' H k leaf T (H + 1) n i (inG H k leaf T (H + 1 - (T + 1)) (T + 1) o0)) = some out := by
        rw [← e]; congr 2
        rw [Int.toNat_natCast, Int.toNat_natCast, show ((T : Int) + 1).toNat = T + 1 by omega, show H + 1 - (T + 1) = H - T by omega]
      refine upLoopI (α := List Subset.D) (n := H + 1) (F := fun fuel out d => lp4 K fuel (vs4' H k leaf T d n i out))
        (G := fun j out => K (.exit 4) (vs4' H k leaf T (H + 1) n i (inG H k leaf T (H + 1 - j) j out))) (Inv := fun j out => out.length ≤ 2000 + j) (fun fuel out => ?_) (fun out j hj hi => ?_) (H - T) (T + 1) o0 out (by omega) (by omega) e
      · simp only [step4, Nat.sub_self, inG]
        rw [decide_eq_false (show ¬ ((H + 1 : Nat) : Int) ≤ (H : Int) by omega)]; rfl
      · left
        obtain ⟨e1, e2⟩ := sub_wrap (H := H) (j := j) (by omega) (by omega)
        refine ⟨bif keepB H k (prP H leaf T j) then out ++ [prP H leaf T j] else out, by cases keepB H k (prP H leaf T j) <;> simp <;> omega, fun fuel => ?_, ?_⟩
        · have ep : prW H leaf T j = prP H leaf T j := by unfold prW prP; rw [a1, e1]
          simp only [step4, cond_true, a1, a2, e1, e2, len_ok (show out.length ≤ 5000 by omega), ep]
          rw [decide_eq_true (show (j : Int) ≤ (H : Int) by omega), wrap64 (n := (j : Int) + 1) (by omega) (by omega)]
          unfold keepB
          cases k == 3 with
          | false => rfl
          | true => cases (bif (useI (H : Int) (prP H leaf T j)).2 != 0 then true else !(useI (H : Int) (prP H leaf T j)).1) <;> rfl
        · have : H + 1 - j = (H + 1 - (j + 1)) + 1 := by omega
          rw [this, inG]
  · cases e
theorem loop310b : LoopP tb Γ310 Λ310 ⟨104, 0, live310⟩ (loopK F310 1) := by
  intro vs K out e
  have hcur : (loopK F310 1).1 = 2 := by kernel_rfl
  rw [hcur] at e ⊢
  unfold Λ310 at e
  split at e
  · rename_i hh; cases hh
  · rename_i h k leaf o0 n _
    cases hc : (decide (1 ≤ h) && decide (h ≤ 32) && decide (n = h) && decide (o0.length ≤ 1)) with
    | false => rw [hc] at e; cases e
    | true =>
      rw [hc] at e
      simp only [cond_true] at e
      simp only [Bool.and_eq_true, decide_eq_true_eq] at hc
      obtain ⟨⟨⟨h1, h2⟩, rfl⟩, h4⟩ := hc
      obtain ⟨H, rfl⟩ := Int.eq_ofNat_of_zero_le (show 0 ≤ n by omega)
      refine upLoopI (α := List Subset.D) (n := H) (F := fun fuel out i => lp2 K fuel (vs0 H k leaf H i out))
        (G := fun j out => K (.exit 2) (vs0 H k leaf H H (outG H k leaf (H - j) j out))) (Inv := fun j out => out.length ≤ 1 + 32 * j) (fun fuel out => ?_) (fun out j hj hi => ?_) H 0 o0 out (by omega) (by omega) e
      · simp only [step2, nlt_dec, cond_false, Nat.sub_self, outG]
      · left
        refine ⟨inG H k leaf j (H - j) (j + 1) out, Nat.le_trans (inG_len _ _ _ _ _ _ _) (by omega), fun fuel => ?_, ?_⟩
        · have e1 : IntKind.i64.wrap ((j : Int) + 1) = ((j + 1 : Nat) : Int) := wrap64 (n := (j : Int) + 1) (by omega) (by omega)
          have hc4 : c4 (H : Int) (j : Int) ((j + 1 : Nat) : Int) out = true := by
            simp only [c4, Bool.and_eq_true, decide_eq_true_eq]
            refine ⟨⟨⟨⟨⟨h1, h2⟩, ?_⟩, ?_⟩, ?_⟩, ?_⟩ <;> omega
          simp only [step2, lt_dec hj, cond_true, e1, hc4]; rfl
        · have : H - j = (H - (j + 1)) + 1 := by omega
          rw [this, outG, Int.toNat_natCast, this]
  · rename_i hh; cases hh
  · cases e
def rls (l : List Subset.D) (e : Int) : AV := .tup [(false, [.sl true Subset none l]), (false, [.int .i64 e])]
def noPr (h k i : Int) : Bool := bif (manyV h k).2 != 0 then true else (leafI h i).2 != 0
def pairsL (h k i : Int) : List Subset.D × Int := bif noPr h k i then ([], 1) else bif k == 1 then (wG h (leafI h i).1 (h.toNat + 1) 0 [], 0) else (outG h k (leafI h i).1 h.toNat 0 [(1, 0)], 0)
theorem r310 (h k i : Int) : run Γ310 Λ310 live310 F310 (encA [.v I, .v I, .v U] (h, k, i)) [.sl true Subset] =
    bif noPr h k i then some (rls [] 1) else
    bif decide ((0 : Int) ≤ 0) && decide (0 ≤ (manyV h k).1) && decide ((16 : Int) * (manyV h k).1 ≤ 281474976710656) then
      bif k == 1 then bif decide (1 ≤ h) && decide (h ≤ 32) && decide (IntKind.i64.wrap (h + 1) = h + 1) then some (rls (wG h (leafI h i).1 (h.toNat + 1) 0 []) 0) else none
      else bif decide (1 ≤ h) && decide (h ≤ 32) && decide (h = h) && decide (([(1, 0)] : List Subset.D).length ≤ 1) then some (rls (outG h k (leafI h i).1 h.toNat 0 [(1, 0)]) 0) else none
    else none := by kernel_rfl
theorem many_all : ((List.range 33).all fun h : Nat => ([1, 2, 3] : List Int).all fun k => decide (0 ≤ (manyV (h : Int) k).1) && decide ((manyV (h : Int) k).1 ≤ 2000)) = true := by kernel_rfl
theorem many_ok {h k : Int} (e : ((manyV h k).2 != 0) = false) : 1 ≤ h ∧ h ≤ 32 ∧ (k = 1 ∨ k = 2 ∨ k = 3) ∧ 0 ≤ (manyV h k).1 ∧ (manyV h k).1 ≤ 2000 := by
  have hp : ((pairsI h).2 != 0) = false := by
    cases hp : (pairsI h).2 != 0 with
    | false => rfl
    | true => unfold manyV at e; rw [hp] at e; simp only [cond_true] at e; rw [hp] at e; cases e
  have hs : ((stepI h).2 != 0) = false := by
    cases hs : (stepI h).2 != 0 with
    | false => rfl
    | true => unfold pairsI at hp; rw [hs] at hp; simp only [cond_true] at hp; rw [hs] at hp; cases hp
  have h1 := highB_iff.1 (chk_zero (stepI_ok hs).2).1
  have hk : k = 1 ∨ k = 2 ∨ k = 3 := by
    unfold manyV at e
    rw [hp] at e
    cases k1 : k == 1 with
    | true => exact .inl (by simpa using k1)
    | false =>
      cases k2 : k == 2 with
      | true => exact .inr (.inl (by simpa using k2))
      | false =>
        cases k3 : k == 3 with
        | true => exact .inr (.inr (by simpa using k3))
        | false => rw [k1, k2, k3] at e; cases e
  obtain ⟨H, rfl⟩ := Int.eq_ofNat_of_zero_le (show 0 ≤ h by omega)
  have ha := List.all_eq_true.1 (List.all_eq_true.1 many_all H (List.mem_range.2 (by omega))) k (by rcases hk with rfl | rfl | rfl <;> simp)
  simp only [Bool.and_eq_true, decide_eq_true_eq] at ha
  exact ⟨h1.1, h1.2, hk, ha.1, ha.2⟩
def s310 : Sp := .fn [.v I, .v I, .v U] fun x => (true, rls (pairsL x.1 x.2.1 x.2.2).1 (pairsL x.1 x.2.1 x.2.2).2)
theorem noPr_ok {h k i : Int} (e : noPr h k i = false) : ((manyV h k).2 != 0) = false ∧ ((leafI h i).2 != 0) = false := by
  unfold noPr at e
  cases hm : (manyV h k).2 != 0 with
  | true => rw [hm] at e; cases e
  | false => rw [hm] at e; exact ⟨rfl, e⟩
theorem manyGuard {n : Int} (h1 : 0 ≤ n) (h2 : n ≤ 2000) : (decide ((0 : Int) ≤ 0) && decide (0 ≤ n) && decide ((16 : Int) * n ≤ 281474976710656)) = true := by
  rw [decide_eq_true (show (0 : Int) ≤ 0 from Int.le_refl 0), decide_eq_true h1, decide_eq_true (by omega)]; rfl
theorem hWrap {h : Int} (h1 : 1 ≤ h) (h2 : h ≤ 32) : IntKind.i64.wrap (h + 1) = h + 1 := wrap64 (by omega) (by omega)
theorem g310 : GoodS Try.prog N310 s310 := by
  refine good (.cons g326 (.cons g323 (.cons g327 (.nil _)))) H310 rfl (by kernel_rfl) Λ310 live310 (threeLoops (p0 := loopK F310 0) (p1 := loopK F310 1) (p2 := loopK F310 2) (by kernel_rfl) loop310a loop310b loop310c) [.v I, .v I, .v U] (by decide) [.sl true Subset] _ fun x r hw e => ?_
  obtain ⟨h, k, i⟩ := x
  cases e
  refine (r310 h k i).trans ?_
  show _ = some (rls (pairsL h k i).1 (pairsL h k i).2)
  unfold pairsL
  cases hn : noPr h k i with
  | true => rfl
  | false =>
    obtain ⟨h1, h2, _, h4, h5⟩ := many_ok (noPr_ok hn).1
    rw [manyGuard h4 h5, decide_eq_true h1, decide_eq_true h2, decide_eq_true (hWrap h1 h2), decide_eq_true (show h = h from rfl), decide_eq_true (show ([(1, 0)] : List Subset.D).length ≤ 1 from Nat.le_refl 1)]
    cases k == 1 <;> rfl

/-! ### node.Path -/
abbrev live311 : List (Nat × Dir) := [(2, .keep), (8, .keep), (9, .arr I), (29, .keep), (30, .keep)]
def vs311 (b n : Int) (l : List Int) (i : Int) : List AV := [.one (.int .u64 b), .one (.int .i64 n), .arr true I l, .one (.int .i64 n), .one (.int .i64 i)]
def Γ311 : Orc := orc [(N328, s328), (N329, s329), (N330, s330)]

def bitI (b j : Int) : Int := IntKind.i64.wrap (IntKind.u64.wrap (BitVec.ofInt 64 (shrI b j) &&& BitVec.ofInt 64 1).toNat)
def setG (b : Int) (n : Nat) : Nat → Nat → List Int → List Int
  | 0, _, l => l
  | m + 1, j, l => setG b n m (j + 1) (l.set (n - 1 - j) (bitI b j))
theorem step311 (b n i : Int) (l : List Int) (Λ : Lam AV) (fuel : Nat) (K : AE → List AV → Option AV) : loopN (aexec tb Γ311 Λ ⟨46, 0, [(1, live311)]⟩ (loopK F311 0).2 1) 46 0 live311 K (fuel + 1) (vs311 b n l i) =
    bif decide (i < n) then bif decide (0 ≤ i) then bif inB (IntKind.i64.wrap (IntKind.i64.wrap (n - 1) - i)) l.length then
      loopN (aexec tb Γ311 Λ ⟨46, 0, [(1, live311)]⟩ (loopK F311 0).2 1) 46 0 live311 K fuel (vs311 b n (l.set (IntKind.i64.wrap (IntKind.i64.wrap (n - 1) - i)).toNat (bitI b i)) (IntKind.i64.wrap (i + 1)))
    else none else none else K (.exit 1) (vs311 b n l i) := by kernel_rfl
def Λ311 : Lam AV := fun cur vs K =>
  match cur, vs with
  | 1, [.one (.int .u64 b), .one (.int .i64 n), .arr true (.int .i64) l, .one (.int .i64 n'), .one (.int .i64 0)] =>
    bif decide (n' = n) && decide (n = l.length) && decide (n ≤ 64) then K (.exit 1) (vs311 b n (setG b n.toNat n.toNat 0 l) n) else none
  | _, _ => none
theorem loop311 : LoopP tb Γ311 Λ311 ⟨46, 0, [(1, live311)]⟩ (loopK F311 0) := by
  intro vs K out e
  have hcur : (loopK F311 0).1 = 1 := by kernel_rfl
  rw [hcur] at e ⊢
  unfold Λ311 at e
  split at e
  · rename_i b n l0 n' _
    cases hc : (decide (n' = n) && decide (n = l0.length) && decide (n ≤ 64)) with
    | false => rw [hc] at e; cases e
    | true =>
      rw [hc] at e
      simp only [cond_true] at e
      simp only [Bool.and_eq_true, decide_eq_true_eq] at hc
      obtain ⟨⟨rfl, hn⟩, h64⟩ := hc
      obtain ⟨N, rfl⟩ := Int.eq_ofNat_of_zero_le (show 0 ≤ n' by omega)
      refine upLoopI (α := List Int) (n := N) (F := fun fuel l i => loopN (aexec tb Γ311 Λ311 ⟨46, 0, [(1, live311)]⟩ (loopK F311 0).2 1) 46 0 live311 K fuel (vs311 b N l i))
        (G := fun j l => K (.exit 1) (vs311 b N (setG b N (N - j) j l) N)) (Inv := fun j l => l.length = N) (fun fuel l => ?_) (fun l j hj hi => ?_) N 0 l0 out (by omega) (by omega) e
      · simp only [step311, nlt_dec, cond_false, Nat.sub_self, setG]
      · left
        refine ⟨l.set (N - 1 - j) (bitI b j), by simpa using hi, fun fuel => ?_, ?_⟩
        · have e1 : IntKind.i64.wrap (IntKind.i64.wrap ((N : Int) - 1) - (j : Int)) = ((N - 1 - j : Nat) : Int) := by
            rw [wrap64 (n := (N : Int) - 1) (by omega) (by omega), wrap64 (by omega) (by omega)]; omega
          simp only [step311, lt_dec hj, cond_true, e1, inB_lt (show N - 1 - j < l.length by omega), Int.toNat_natCast]
          rw [decide_eq_true (show (0 : Int) ≤ (j : Int) by omega), wrap64 (n := (j : Int) + 1) (by omega) (by omega)]; rfl
        · have : N - j = (N - (j + 1)) + 1 := by omega
          rw [this, setG]
  · cases e
def pathN (a b : Int) : Int := depI b - depI a
def pathI (h a b : Int) : List Int × Int := bif bothI h a b != 0 then ([], 1) else bif !aboveB a b then ([], 4) else (setG b (pathN a b).toNat (pathN a b).toNat 0 (List.replicate (pathN a b).toNat 0), 0)
def rli (l : List Int) (e : Int) : AV := .tup [(false, [.sl true I none l]), (false, [.int .i64 e])]
def pathR (b n : Int) : Option AV := bif decide (0 ≤ n) && decide (n ≤ n) && decide ((8 : Int) * n ≤ 281474976710656) then
  bif decide (n = n) && decide (n = (List.replicate n.toNat (0 : Int)).length) && decide (n ≤ 64) then some (rli (setG b n.toNat n.toNat 0 (List.replicate n.toNat 0)) 0) else none else none
theorem r311 (h a b : Int) : run Γ311 Λ311 [(1, live311)] F311 (encA [.v I, .v U, .v U] (h, a, b)) [.sl true I] =
    bif bothI h a b != 0 then some (rli [] 1) else bif !aboveB a b then some (rli [] 4) else pathR b (IntKind.i64.wrap (depI b - depI a)) := by kernel_rfl
theorem above_le {a b : Int} (h : aboveB a b = true) : depI a ≤ depI b := by
  unfold aboveB at h
  cases hd : decide (depI a ≤ depI b) with
  | true => exact of_decide_eq_true hd
  | false => rw [hd] at h; cases h
theorem pathR_ok {b n : Int} (h1 : 0 ≤ n) (h2 : n ≤ 64) : pathR b n = some (rli (setG b n.toNat n.toNat 0 (List.replicate n.toNat 0)) 0) := by
  unfold pathR
  rw [decide_eq_true h1, decide_eq_true (Int.le_refl n), decide_eq_true (show (8 : Int) * n ≤ 281474976710656 by omega), decide_eq_true (show n = n from rfl), decide_eq_true h2,
    decide_eq_true (show n = (List.replicate n.toNat (0 : Int)).length by rw [List.length_replicate]; omega)]
  rfl
theorem pathN_bd {a b : Int} (ha : IntKind.u64.has a) (hb : IntKind.u64.has b) (h : aboveB a b = true) : 0 ≤ pathN a b ∧ pathN a b ≤ 64 ∧ IntKind.i64.wrap (depI b - depI a) = pathN a b := by
  have h1 := depI_bd ha
  have h2 := depI_bd hb
  have h3 := above_le h
  unfold pathN
  exact ⟨by omega, by omega, wrap64 (by omega) (by omega)⟩
def s311 : Sp := .fn [.v I, .v U, .v U] fun x => (true, rli (pathI x.1 x.2.1 x.2.2).1 (pathI x.1 x.2.1 x.2.2).2)
theorem g311 : GoodS Try.prog N311 s311 := by
  refine good (.cons g328 (.cons g329 (.cons g330 (.nil _)))) H311 rfl (by kernel_rfl) Λ311 [(1, live311)] (oneLoop (p0 := loopK F311 0) (by kernel_rfl) loop311) [.v I, .v U, .v U] (by decide) [.sl true I] _ fun x r hw e => ?_
  obtain ⟨h, a, b⟩ := x
  cases e
  refine (r311 h a b).trans ?_
  show _ = some (rli (pathI h a b).1 (pathI h a b).2)
  unfold pathI
  cases bothI h a b != 0 with
  | true => rfl
  | false =>
    cases ha : aboveB a b with
    | false => rfl
    | true =>
      obtain ⟨p1, p2, p3⟩ := pathN_bd hw.2.1 hw.2.2 ha
      rw [p3, pathR_ok p1 p2]; rfl

/-! ### slices.Index -/
abbrev live325 : List (Nat × Dir) := [(0, .keep), (3, .keep), (4, .keep), (7, .keep), (8, .keep)]
def vs325 (l : List Subset.D) (s : Subset.D) (r n i : Int) : List AV := [.one (.sl false Subset none l), .own [.int .u64 s.1, .int .u64 s.2], .one (.int .i64 r), .one (.int .i64 n), .one (.int .i64 i)]
def idxS (s : Subset.D) : List Subset.D → Int → Int
  | [], _ => -1
  | x :: xs, i => bif s.1 == x.1 && s.2 == x.2 then i else idxS s xs (i + 1)
def sAt (l : List Subset.D) (i : Int) : Subset.D := l.getD i.toNat (0, 0)
theorem step325 (l : List Subset.D) (s : Subset.D) (r n i : Int) (Λ : Lam AV) (fuel : Nat) (K : AE → List AV → Option AV) : loopN (aexec tb (orc []) Λ ⟨19, 0, [(0, live325)]⟩ (loopK F325 0).2 0) 19 0 live325 K (fuel + 1) (vs325 l s r n i) =
    bif decide (i < n) then bif inB i l.length then
      bif s.1 == (sAt l i).1 && s.2 == (sAt l i).2 then K .ret (vs325 l s i n i)
      else loopN (aexec tb (orc []) Λ ⟨19, 0, [(0, live325)]⟩ (loopK F325 0).2 0) 19 0 live325 K fuel (vs325 l s r n (IntKind.i64.wrap (i + 1)))
    else none else K (.exit 0) (vs325 l s r n i) := by kernel_rfl
def Λ325 : Lam AV := fun cur vs K =>
  match cur, vs with
  | 0, [.one (.sl false (.pair (.int .u64) (.int .u64)) none l), .own [.int .u64 a, .int .u64 b], .one (.int .i64 r), .one (.int .i64 n), .one (.int .i64 0)] =>
    bif decide (n = l.length) && decide (n ≤ 9223372036854775807) then
      bif decide (idxS (a, b) l 0 < 0) then K (.exit 0) (vs325 l (a, b) r n n) else K .ret (vs325 l (a, b) (idxS (a, b) l 0) n (idxS (a, b) l 0))
    else none
  | _, _ => none
theorem sAt_drop {l : List Subset.D} {j : Nat} (h : j < l.length) : l.drop j = sAt l j :: l.drop (j + 1) := by
  rw [List.drop_eq_getElem_cons h]
  simp [sAt, h]
theorem loop325 : LoopP tb (orc []) Λ325 ⟨19, 0, [(0, live325)]⟩ (loopK F325 0) := by
  intro vs K out e
  have hcur : (loopK F325 0).1 = 0 := by kernel_rfl
  rw [hcur] at e ⊢
  unfold Λ325 at e
  split at e
  · rename_i l a b r n _
    cases hc : (decide (n = l.length) && decide (n ≤ 9223372036854775807)) with
    | false => rw [hc] at e; cases e
    | true =>
      rw [hc] at e
      simp only [cond_true] at e
      simp only [Bool.and_eq_true, decide_eq_true_eq] at hc
      obtain ⟨rfl, hmax⟩ := hc
      refine upLoop (α := Unit) (n := l.length) (F := fun fuel _ i => loopN (aexec tb (orc []) Λ325 ⟨19, 0, [(0, live325)]⟩ (loopK F325 0).2 0) 19 0 live325 K fuel (vs325 l (a, b) r l.length i))
        (G := fun j _ => bif decide (idxS (a, b) (l.drop j) j < 0) then K (.exit 0) (vs325 l (a, b) r l.length l.length) else K .ret (vs325 l (a, b) (idxS (a, b) (l.drop j) j) l.length (idxS (a, b) (l.drop j) j)))
        (fun fuel _ => ?_) (fun _ j hj => ?_) l.length 0 () out (by omega) e
      · simp only [step325, nlt_dec, cond_false, List.drop_length, idxS]; rfl
      · cases hx : (a == (sAt l j).1 && b == (sAt l j).2) with
        | true =>
          right; intro fuel
          have h0 : decide ((j : Int) < 0) = false := by simp
          simp only [step325, lt_dec hj, inB_lt hj, hx, cond_true, cond_false, sAt_drop hj, idxS, h0]
        | false =>
          left; refine ⟨(), fun fuel => ?_, ?_⟩
          · simp only [step325, lt_dec hj, inB_lt hj, hx, cond_true, cond_false]
            rw [wrap64 (by omega) (by omega)]; rfl
          · simp only [sAt_drop hj, idxS, hx, cond_false]; rfl
  · cases e
theorem r325 (l : List Subset.D) (s : Subset.D) : run (orc []) Λ325 [(0, live325)] F325 (encA [.v (.sl Subset), .v Subset] (l, s)) [] =
    bif decide ((l.length : Int) = l.length) && decide ((l.length : Int) ≤ 9223372036854775807) then
      bif decide (idxS s l 0 < 0) then some (.one (.int .i64 (-1))) else some (.one (.int .i64 (idxS s l 0)))
    else none := by kernel_rfl
theorem idxS_ge (s : Subset.D) : ∀ (xs : List Subset.D) (i : Int), idxS s xs i = -1 ∨ i ≤ idxS s xs i := by
  intro xs
  induction xs with
  | nil => intro i; exact .inl rfl
  | cons x xs ih =>
    intro i
    simp only [idxS]
    cases s.1 == x.1 && s.2 == x.2 with
    | true => exact .inr (Int.le_refl i)
    | false => rcases ih (i + 1) with h | h
               · exact .inl h
               · exact .inr (by simp only [cond_false]; omega)
theorem lenMax {α : Type} {l : List α} (hw : l.length ≤ 9223372036854775807) : (decide ((l.length : Int) = l.length) && decide ((l.length : Int) ≤ 9223372036854775807)) = true := by
  have hmax : (l.length : Int) ≤ 9223372036854775807 := by omega
  simp [hmax]
def s325 : Sp := .fn [.v (.sl Subset), .v Subset] fun x => (true, .one (.int .i64 (idxS x.2 x.1 0)))
theorem g325 : GoodS Try.prog N325 s325 := by
  refine good (.nil _) H325 rfl (by kernel_rfl) Λ325 [(0, live325)] (oneLoop (p0 := loopK F325 0) (by kernel_rfl) loop325) [.v (.sl Subset), .v Subset] (by decide) [] _ fun x r hw e => ?_
  obtain ⟨l, s⟩ := x
  cases e
  refine (r325 l s).trans ?_
  rw [lenMax hw.1.1]
  rcases idxS_ge s l 0 with h | h
  · rw [h]; rfl
  · have : decide (idxS s l 0 < 0) = false := by simpa using h
    rw [this]; rfl

/-! ### walk.beside -/
def besI (h a b : Int) : Int × Int := bif (meetI h a b).2 != 0 then (0, (meetI h a b).2) else bif (depthI h (meetI h a b).1).2 != 0 then (0, (depthI h (meetI h a b).1).2) else upI h b (IntKind.i64.wrap ((depthI h (meetI h a b).1).1 + 1))
theorem r324 (h a b : Int) : run (orc [(N361, s361), (N362, s362), (N363, s363)]) noL [] F324 (encA [.v I, .v U, .v U] (h, a, b)) [] =
    bif (meetI h a b).2 != 0 then some (re2 0 (meetI h a b).2) else bif (depthI h (meetI h a b).1).2 != 0 then some (re2 0 (depthI h (meetI h a b).1).2) else
      some (re2 (upI h b (IntKind.i64.wrap ((depthI h (meetI h a b).1).1 + 1))).1 (upI h b (IntKind.i64.wrap ((depthI h (meetI h a b).1).1 + 1))).2) := by kernel_rfl
def s324 : Sp := .fn [.v I, .v U, .v U] fun x => (true, re2 (besI x.1 x.2.1 x.2.2).1 (besI x.1 x.2.1 x.2.2).2)
theorem g324 : GoodS Try.prog N324 s324 := by
  refine good (.cons g361 (.cons g362 (.cons g363 (.nil _)))) H324 rfl (by kernel_rfl) noL [] (noLoops (by kernel_rfl)) [.v I, .v U, .v U] (by decide) [] _ fun x r hw e => ?_
  obtain ⟨h, a, b⟩ := x
  cases e
  rw [r324]; unfold besI
  cases (meetI h a b).2 != 0 with
  | true => rfl
  | false => cases (depthI h (meetI h a b).1).2 != 0 <;> rfl
--CUT
end Go.AM.Seat
