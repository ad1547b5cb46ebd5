/- The seat: contracts of the definition's functions: the entry that leads to a key, the first one in which a leaf is; the law WalkDoes. -/
import Derived.Test.YtoeijiackpanoaaPlPairs
set_option linter.unusedVariables false
set_option maxRecDepth 100000
set_option linter.unusedSimpArgs false
namespace Go.AM.Seat
open Go Go.AM Go.Proofs

abbrev live314 : List (Nat × Dir) := [(0, .keep), (7, .keep), (8, .keep), (9, .keep), (10, .keep), (54, .keep), (55, .keep), (56, .keep)]
def Γ314 : Orc := orc [(N334, s310), (N335, s318), (N336, s312), (N337, s337), (N338, s311)]
def vs314 (h : Int) (s : Subset.D) (k : Int) (sd : SV) (e : Int) (l : List Subset.D) (n i : Int) : List AV := [.one (.int .i64 h), .own [.int .u64 s.1, .int .u64 s.2], .one (.int .i64 k), .one sd, .one (.int .i64 e), .one (.sl true Subset none l), .one (.int .i64 n), .one (.int .i64 i)]
noncomputable abbrev lp314 (Λ : Lam AV) (K : AE → List AV → Option AV) (fuel : Nat) (vs : List AV) : Option AV := loopN (aexec tb Γ314 Λ ⟨102, 0, [(0, live314)]⟩ (loopK F314 0).2 0) 102 0 live314 K fuel vs

abbrev live316 : List (Nat × List (Nat × Dir)) := [(0, [(0, .keep), (1, .keep), (2, .keep), (6, .keep), (7, .keep), (24, .keep), (25, .keep), (26, .keep)]), (2, [(0, .keep), (1, .keep), (6, .keep), (7, .keep), (35, .keep), (36, .keep), (37, .keep)])]
def Γ316 : Orc := orc [(N344, s344), (N345, s345), (N336, s312)]
def vs316a (h i : Int) (l : List Subset.D) (r e : Int) (n j : Int) : List AV := [.one (.int .i64 h), .one (.int .u64 i), .one (.sl false Subset none l), .one (.int .i64 r), .one (.int .i64 e), .one (.sl false Subset none l), .one (.int .i64 n), .one (.int .i64 j)]
def vs316b (h i : Int) (r e : Int) (l : List Subset.D) (n j : Int) : List AV := [.one (.int .i64 h), .one (.int .u64 i), .one (.int .i64 r), .one (.int .i64 e), .one (.sl false Subset none l), .one (.int .i64 n), .one (.int .i64 j)]
noncomputable abbrev l16a (Λ : Lam AV) (K : AE → List AV → Option AV) (fuel : Nat) (vs : List AV) : Option AV := loopN (aexec tb Γ316 Λ ⟨52, 0, live316⟩ (loopK F316 0).2 0) 52 0 [(0, .keep), (1, .keep), (2, .keep), (6, .keep), (7, .keep), (24, .keep), (25, .keep), (26, .keep)] K fuel vs
noncomputable abbrev l16b (Λ : Lam AV) (K : AE → List AV → Option AV) (fuel : Nat) (vs : List AV) : Option AV := loopN (aexec tb Γ316 Λ ⟨52, 0, live316⟩ (loopK F316 1).2 2) 52 0 [(0, .keep), (1, .keep), (6, .keep), (7, .keep), (35, .keep), (36, .keep), (37, .keep)] K fuel vs
def h0B (s x : Subset.D) : Bool := bif s.2 == 0 then x.2 == 0 else false
def h1B (s x : Subset.D) : Bool := bif s.2 != 0 then x.2 != 0 else false
theorem step314 (h : Int) (s : Subset.D) (k : Int) (e : Int) (l : List Subset.D) (n i : Int) (Λ : Lam AV) (fuel : Nat) (K : AE → List AV → Option AV) : lp314 Λ K (fuel + 1) (vs314 h s k .nils e l n i) =
    bif decide (i < n) then bif inB i l.length then
      bif (sAt l i).1 != s.1 then lp314 Λ K fuel (vs314 h s k .nils e l n (IntKind.i64.wrap (i + 1))) else
      bif h0B s (sAt l i) then K .ret (vs314 h s i .nils 0 l n i) else
      bif decide (1 ≤ s.2) || !boolBeq (h1B s (sAt l i)) true then
        bif (bif h1B s (sAt l i) then isI (sAt l i).2 s.2 else false) then K .ret (vs314 h s i (.sl true I none (pathI h (sAt l i).2 s.2).1) 0 l n i)
        else lp314 Λ K fuel (vs314 h s k .nils e l n (IntKind.i64.wrap (i + 1)))
      else none
    else none else K (.exit 0) (vs314 h s k .nils e l n i) := by kernel_rfl
def hitB (s x : Subset.D) : Bool := x.1 == s.1 && bif s.2 == 0 then x.2 == 0 else bif x.2 != 0 then isI x.2 s.2 else false
def retE (h : Int) (s : Subset.D) (l : List Subset.D) (n : Int) (K : AE → List AV → Option AV) (j : Nat) : Option AV :=
  bif s.2 == 0 then K .ret (vs314 h s j .nils 0 l n j) else K .ret (vs314 h s j (.sl true I none (pathI h (sAt l j).2 s.2).1) 0 l n j)
def Λ314 : Lam AV := fun cur vs K =>
  match cur, vs with
  | 0, [.one (.int .i64 h), .own [.int .u64 a, .int .u64 b], .one (.int .i64 k), .one .nils, .one (.int .i64 e), .one (.sl true (.pair (.int .u64) (.int .u64)) none l), .one (.int .i64 n), .one (.int .i64 0)] =>
    bif decide (n = l.length) && decide (n ≤ 9223372036854775807) && decide (0 ≤ b) then allK (retE h (a, b) l n K) (K (.exit 0) (vs314 h (a, b) k .nils e l n n)) (fun j => hitB (a, b) (sAt l j)) n.toNat 0 else none
  | _, _ => none
theorem is_guard {s x : Int × Int} (h : 0 ≤ s.2) : (decide (1 ≤ s.2) || !boolBeq (h1B s x) true) = true := by
  cases e : s.2 != 0 with
  | false => unfold h1B; rw [e]; cases decide (1 ≤ s.2) <;> rfl
  | true => have : s.2 ≠ 0 := ne_of e; rw [decide_eq_true (show 1 ≤ s.2 by omega)]; rfl
theorem loop314 : LoopP tb Γ314 Λ314 ⟨102, 0, [(0, live314)]⟩ (loopK F314 0) := by
  intro vs K out e
  have hcur : (loopK F314 0).1 = 0 := by kernel_rfl
  rw [hcur] at e ⊢
  unfold Λ314 at e
  split at e
  · rename_i h a b k e0 l n _
    cases hc : (decide (n = l.length) && decide (n ≤ 9223372036854775807) && decide (0 ≤ b)) with
    | false => rw [hc] at e; cases e
    | true =>
      rw [hc] at e
      simp only [cond_true] at e
      simp only [Bool.and_eq_true, decide_eq_true_eq] at hc
      obtain ⟨⟨rfl, hmax⟩, hb⟩ := hc
      refine upLoop (α := Unit) (n := l.length) (F := fun fuel _ j => lp314 Λ314 K fuel (vs314 h (a, b) k .nils e0 l l.length j))
        (G := fun j _ => allK (retE h (a, b) l l.length K) (K (.exit 0) (vs314 h (a, b) k .nils e0 l l.length l.length)) (fun j => hitB (a, b) (sAt l j)) (l.length - j) j)
        (fun fuel _ => ?_) (fun _ j hj => ?_) l.length 0 () out (by omega) e
      · simp only [step314, nlt_dec, cond_false, Nat.sub_self, allK]
      · have hm : l.length - j = (l.length - (j + 1)) + 1 := by omega
        have hg := is_guard (s := (a, b)) (x := sAt l j) hb
        have ew : IntKind.i64.wrap ((j : Int) + 1) = ((j + 1 : Nat) : Int) := wrap64 (n := (j : Int) + 1) (by omega) (by omega)
        cases hx : hitB (a, b) (sAt l j) with
        | true =>
          right; intro fuel
          simp only [hm, allK, hx, cond_true, step314, lt_dec hj, inB_lt hj, hg]
          unfold hitB at hx
          simp only [Bool.and_eq_true] at hx
          obtain ⟨h1, h2⟩ := hx
          have h1' : ((sAt l j).1 != a) = false := by unfold bne; rw [show ((sAt l j).1 == a) = true from h1]; rfl
          unfold retE h0B h1B bne
          cases hz : b == 0 with
          | true =>
            simp only [hz, cond_true] at h2
            simp only [bne] at h1'
            simp only [h1', hz, h2, cond_false, cond_true]
          | false =>
            simp only [hz, cond_false] at h2
            simp only [bne] at h1'
            cases hy : (sAt l j).2 != 0 with
            | false => rw [hy] at h2; cases h2
            | true =>
              rw [hy] at h2
              simp only [bne] at hy
              simp only [cond_true] at h2
              simp only [h1', hz, hy, h2, cond_false, cond_true, Bool.not_false]
        | false =>
          left; refine ⟨(), fun fuel => ?_, ?_⟩
          · simp only [step314, lt_dec hj, inB_lt hj, cond_true, hg, ew]
            unfold hitB at hx
            unfold h0B h1B bne
            cases h1 : (sAt l j).1 == a with
            | false => rfl
            | true =>
              simp only [h1, Bool.true_and] at hx
              simp only [Bool.not_true, cond_false]
              cases hz : b == 0 with
              | true => simp only [hz, cond_true] at hx; simp only [hx, cond_true, cond_false, Bool.not_true]
              | false =>
                simp only [hz, cond_false] at hx
                simp only [cond_false, Bool.not_false, cond_true]
                simp only [bne] at hx
                cases hy : (sAt l j).2 == 0 with
                | true => rfl
                | false => rw [hy] at hx; simp only [Bool.not_false, cond_true] at hx; simp only [hx, Bool.not_false, cond_true, cond_false]
          · simp only [hm, allK, hx, cond_false]
  · cases e
def refE (h k i : Int) (s : Subset.D) : Option AV :=
  bif (bif bif (pairsL h k i).2 != 0 then true else (mayI h k s).2 != 0 then true else !(mayI h k s).1) then some (ren 0 [] 1) else bif !(hasI h s i).1 then some (ren 0 [] 4) else
    bif decide (((pairsL h k i).1.length : Int) = (pairsL h k i).1.length) && decide (((pairsL h k i).1.length : Int) ≤ 9223372036854775807) && decide (0 ≤ s.2) then
      allK (fun j => bif s.2 == 0 then some (ren j [] 0) else some (ren j (pathI h (sAt (pairsL h k i).1 j).2 s.2).1 0)) (some (ren 0 [] 4)) (fun j => hitB s (sAt (pairsL h k i).1 j)) (((pairsL h k i).1.length : Int)).toNat 0 else none
theorem r314 (h k i : Int) (s : Subset.D) : run Γ314 Λ314 [(0, live314)] F314 (encA [.v I, .v I, .v U, .v Subset] (h, k, i, s)) [.id, .sl true I, .id] = refE h k i s := by kernel_rfl

/-! ### r15.First -/
theorem st16a (h i : Int) (l : List Subset.D) (r e : Int) (n j : Int) (Λ : Lam AV) (fuel : Nat) (K : AE → List AV → Option AV) : l16a Λ K (fuel + 1) (vs316a h i l r e n j) =
    bif decide (j < n) then bif inB j l.length then bif badS h (sAt l j) then K .ret (vs316a h i l 0 1 n j) else l16a Λ K fuel (vs316a h i l r e n (IntKind.i64.wrap (j + 1))) else none else K (.exit 0) (vs316a h i l r e n j) := by kernel_rfl
theorem st16b (h i : Int) (l : List Subset.D) (r e : Int) (n j : Int) (Λ : Lam AV) (fuel : Nat) (K : AE → List AV → Option AV) : l16b Λ K (fuel + 1) (vs316b h i r e l n j) =
    bif decide (j < n) then bif inB j l.length then bif (hasI h (sAt l j) i).1 then K .ret (vs316b h i j 0 l n j) else l16b Λ K fuel (vs316b h i r e l n (IntKind.i64.wrap (j + 1))) else none else K (.exit 2) (vs316b h i r e l n j) := by kernel_rfl
def Λ316 : Lam AV := fun cur vs K =>
  match cur, vs with
  | 0, [.one (.int .i64 h), .one (.int .u64 i), .one (.sl false (.pair (.int .u64) (.int .u64)) none l'), .one (.int .i64 r), .one (.int .i64 e), .one (.sl false (.pair (.int .u64) (.int .u64)) none l), .one (.int .i64 n), .one (.int .i64 0)] =>
    bif decide (l' = l) && decide (n = l.length) && decide (n ≤ 9223372036854775807) then allK (fun j => K .ret (vs316a h i l 0 1 n j)) (K (.exit 0) (vs316a h i l r e n n)) (fun j => badS h (sAt l j)) n.toNat 0 else none
  | 2, [.one (.int .i64 h), .one (.int .u64 i), .one (.int .i64 r), .one (.int .i64 e), .one (.sl false (.pair (.int .u64) (.int .u64)) none l), .one (.int .i64 n), .one (.int .i64 0)] =>
    bif decide (n = l.length) && decide (n ≤ 9223372036854775807) then allK (fun j => K .ret (vs316b h i j 0 l n j)) (K (.exit 2) (vs316b h i r e l n n)) (fun j => (hasI h (sAt l j) i).1) n.toNat 0 else none
  | _, _ => none
theorem loop316a : LoopP tb Γ316 Λ316 ⟨52, 0, live316⟩ (loopK F316 0) := by
  intro vs K out e
  have hcur : (loopK F316 0).1 = 0 := by kernel_rfl
  rw [hcur] at e ⊢
  unfold Λ316 at e
  split at e
  · rename_i h i l' r e0 l n _
    cases hc : (decide (l' = l) && decide (n = l.length) && decide (n ≤ 9223372036854775807)) with
    | false => rw [hc] at e; cases e
    | true =>
      rw [hc] at e
      simp only [cond_true] at e
      simp only [Bool.and_eq_true, decide_eq_true_eq] at hc
      obtain ⟨⟨rfl, rfl⟩, hmax⟩ := hc
      refine upLoop (α := Unit) (n := l'.length) (F := fun fuel _ j => l16a Λ316 K fuel (vs316a h i l' r e0 l'.length j))
        (G := fun j _ => allK (fun j => K .ret (vs316a h i l' 0 1 l'.length j)) (K (.exit 0) (vs316a h i l' r e0 l'.length l'.length)) (fun j => badS h (sAt l' j)) (l'.length - j) j)
        (fun fuel _ => ?_) (fun _ j hj => ?_) l'.length 0 () out (by omega) e
      · simp only [st16a, nlt_dec, cond_false, Nat.sub_self, allK]
      · have hm : l'.length - j = (l'.length - (j + 1)) + 1 := by omega
        cases hx : badS h (sAt l' j) with
        | true => right; intro fuel; simp only [st16a, lt_dec hj, inB_lt hj, hx, cond_true, hm, allK]
        | false =>
          left; refine ⟨(), fun fuel => ?_, ?_⟩
          · simp only [st16a, lt_dec hj, inB_lt hj, hx, cond_true, cond_false]
            rw [wrap64 (by omega) (by omega)]; rfl
          · simp only [hm, allK, hx, cond_false]
  · rename_i hh; cases hh
  · cases e
theorem loop316b : LoopP tb Γ316 Λ316 ⟨52, 0, live316⟩ (loopK F316 1) := by
  intro vs K out e
  have hcur : (loopK F316 1).1 = 2 := by kernel_rfl
  rw [hcur] at e ⊢
  unfold Λ316 at e
  split at e
  · rename_i hh; cases hh
  · rename_i h i r e0 l n _
    cases hc : (decide (n = l.length) && decide (n ≤ 9223372036854775807)) with
    | false => rw [hc] at e; cases e
    | true =>
      rw [hc] at e
      simp only [cond_true] at e
      simp only [Bool.and_eq_true, decide_eq_true_eq] at hc
      obtain ⟨rfl, hmax⟩ := hc
      refine upLoop (α := Unit) (n := l.length) (F := fun fuel _ j => l16b Λ316 K fuel (vs316b h i r e0 l l.length j))
        (G := fun j _ => allK (fun j => K .ret (vs316b h i j 0 l l.length j)) (K (.exit 2) (vs316b h i r e0 l l.length l.length)) (fun j => (hasI h (sAt l j) i).1) (l.length - j) j)
        (fun fuel _ => ?_) (fun _ j hj => ?_) l.length 0 () out (by omega) e
      · simp only [st16b, nlt_dec, cond_false, Nat.sub_self, allK]
      · have hm : l.length - j = (l.length - (j + 1)) + 1 := by omega
        cases hx : (hasI h (sAt l j) i).1 with
        | true => right; intro fuel; simp only [st16b, lt_dec hj, inB_lt hj, hx, cond_true, hm, allK]
        | false =>
          left; refine ⟨(), fun fuel => ?_, ?_⟩
          · simp only [st16b, lt_dec hj, inB_lt hj, hx, cond_true, cond_false]
            rw [wrap64 (by omega) (by omega)]; rfl
          · simp only [hm, allK, hx, cond_false]
  · cases e
def refF (h i : Int) (l : List Subset.D) : Option AV :=
  bif (leafI h i).2 != 0 then some (ri2 0 1) else
    bif decide (l = l) && decide ((l.length : Int) = l.length) && decide ((l.length : Int) ≤ 9223372036854775807) then
      allK (fun _ => some (ri2 0 1)) (bif decide ((l.length : Int) = l.length) && decide ((l.length : Int) ≤ 9223372036854775807) then allK (fun j => some (ri2 j 0)) (some (ri2 0 4)) (fun j => (hasI h (sAt l j) i).1) (l.length : Int).toNat 0 else none) (fun j => badS h (sAt l j)) (l.length : Int).toNat 0
    else none
theorem r316 (h i : Int) (l : List Subset.D) : run Γ316 Λ316 live316 F316 (encA [.v I, .v U, .v (.sl Subset)] (h, i, l)) [] = refF h i l := by kernel_rfl
end Go.AM.Seat
