/- term.Deep: plain laws: how deep a term is. -/
import Derived.Test.YtnkdeglckmogcaaDoorSeWd
set_option linter.unusedVariables false
set_option linter.unusedSimpArgs false
set_option maxRecDepth 100000
namespace Go.AM.Seat
open Go Go.AM Go.Proofs

def depN (l : List Term.D) : Nat → Int → Int
  | 0, _ => 0
  | f + 1, k => (partsL (tAt l k)).foldl (fun m y => maxI m (depN l f y + 1)) 0
def dep (l : List Term.D) (k : Int) : Int := depN l (k.toNat + 1) k
theorem foldl_same {f g : Int → Int → Int} : ∀ (ps : List Int) (a : Int), (∀ y ∈ ps, ∀ m, f m y = g m y) → ps.foldl f a = ps.foldl g a := by
  intro ps
  induction ps with
  | nil => intro a _; rfl
  | cons y ps ih => intro a h; rw [List.foldl_cons, List.foldl_cons, h y (by simp)]; exact ih _ fun z hz => h z (by simp [hz])
theorem maxI_spec (a b : Int) : a ≤ maxI a b ∧ b ≤ maxI a b ∧ (maxI a b = a ∨ maxI a b = b) := by
  unfold maxI
  split <;> omega
theorem fold_max (f : Int → Int) : ∀ (ps : List Int) (a : Int), a ≤ ps.foldl (fun m y => maxI m (f y)) a ∧ (∀ y ∈ ps, f y ≤ ps.foldl (fun m y => maxI m (f y)) a) ∧ (ps.foldl (fun m y => maxI m (f y)) a = a ∨ ∃ y ∈ ps, ps.foldl (fun m y => maxI m (f y)) a = f y) := by
  intro ps
  induction ps with
  | nil => intro a; exact ⟨Int.le_refl _, (fun y hy => by cases hy), .inl rfl⟩
  | cons x ps ih =>
    intro a
    obtain ⟨h1, h2, h3⟩ := ih (maxI a (f x))
    obtain ⟨m1, m2, m3⟩ := maxI_spec a (f x)
    rw [List.foldl_cons]
    refine ⟨Int.le_trans m1 h1, fun y hy => ?_, ?_⟩
    · rcases List.mem_cons.1 hy with rfl | hy
      · exact Int.le_trans m2 h1
      · exact h2 y hy
    · rcases h3 with h3 | ⟨y, hy, h3⟩
      · rcases m3 with m3 | m3
        · left; rw [h3, m3]
        · right; exact ⟨x, by simp, by rw [h3, m3]⟩
      · right; exact ⟨y, by simp [hy], h3⟩
theorem depN_st {l : List Term.D} (hg : GoodL l) : ∀ (f g : Nat) (k : Int), 0 ≤ k → k < l.length → k.toNat < f → k.toNat < g → depN l f k = depN l g k := by
  intro f
  induction f with
  | zero => intro g k _ _ h; omega
  | succ f ih =>
    intro g k h0 h1 hf hgk
    cases g with
    | zero => omega
    | succ g =>
      simp only [depN]
      refine foldl_same _ _ fun y hy m => ?_
      have := parts_lt hg h0 h1 y hy
      rw [ih g y (by omega) (by omega) (by omega) (by omega)]
theorem dep_eq {l : List Term.D} (hg : GoodL l) {k : Int} (h0 : 0 ≤ k) (h1 : k < l.length) : dep l k = (partsL (tAt l k)).foldl (fun m y => maxI m (dep l y + 1)) 0 := by
  unfold dep
  rw [depN]
  refine foldl_same _ _ fun y hy m => ?_
  have := parts_lt hg h0 h1 y hy
  rw [depN_st hg k.toNat (y.toNat + 1) y (by omega) (by omega) (by omega) (by omega)]
/-- No deeper than it stands; deeper than its parts; by one than the deepest. -/
theorem dep_spec {l : List Term.D} (hg : GoodL l) {k : Int} (h0 : 0 ≤ k) (h1 : k < l.length) : 0 ≤ dep l k ∧ (∀ y ∈ partsL (tAt l k), dep l y + 1 ≤ dep l k) ∧ (dep l k = 0 ∨ ∃ y ∈ partsL (tAt l k), dep l k = dep l y + 1) := by
  have := fold_max (fun y => dep l y + 1) (partsL (tAt l k)) 0
  rw [dep_eq hg h0 h1]
  exact this
theorem dep_le {l : List Term.D} (hg : GoodL l) : ∀ (n : Nat), n < l.length → dep l n ≤ n := by
  intro n
  induction n using Nat.strongRecOn with
  | _ n ih =>
    intro hn
    obtain ⟨_, _, h3⟩ := dep_spec hg (k := (n : Int)) (by omega) (by omega)
    rcases h3 with h | ⟨y, hy, h⟩
    · omega
    · have h5 := parts_lt hg (x := (n : Int)) (by omega) (by omega) y hy
      obtain ⟨z, rfl⟩ := Int.eq_ofNat_of_zero_le h5.1
      have := ih z (by omega) (by omega)
      omega
theorem iA_set_ne {d : List Int} {k : Nat} {v y : Int} (h0 : 0 ≤ y) (hy : y ≠ k) : iA (d.set k v) y = iA d y := by
  unfold iA
  simp only [List.getD_eq_getElem?_getD]
  rw [List.getElem?_set_ne (by omega)]
theorem iA_set_self {d : List Int} {k : Nat} {v : Int} (h : k < d.length) : iA (d.set k v) k = v := by
  unfold iA; simp [h]
theorem dpL_ok {l : List Term.D} {k : Nat} (hk : (k : Int) ≤ 65536) : ∀ (ps d : List Int), k < d.length → (∀ y ∈ ps, 0 ≤ y ∧ y < k ∧ iA d y = dep l y ∧ dep l y ≤ y ∧ 0 ≤ dep l y) →
    dpL k ps d = some (d.set k (ps.foldl (fun m y => maxI m (dep l y + 1)) (iA d k))) := by
  intro ps
  induction ps with
  | nil =>
    intro d hd _
    simp only [dpL, List.foldl_nil]
    congr 1
    rw [iA_nat hd]
    exact (List.set_getElem_self hd).symm
  | cons x ps ih =>
    intro d hd h
    obtain ⟨x0, x1, x2, x3, x4⟩ := h x (by simp)
    have e : dpO d k x = some (d.set k (maxI (iA d k) (dep l x + 1))) := by
      unfold dpO
      have hb : inB x d.length = true := by unfold inB; rw [decide_eq_true x0, decide_eq_true (show x < (d.length : Int) by omega)]; rfl
      rw [inB_lt hd, hb, x2, wrap64 (by omega) (by omega), Int.toNat_natCast]; rfl
    simp only [dpL, e]
    rw [ih _ (by simp; exact hd) fun y hy => ?_]
    · rw [iA_set_self hd, List.set_set, List.foldl_cons]
    · obtain ⟨y0, y1, y2, y3, y4⟩ := h y (by simp [hy])
      exact ⟨y0, y1, by rw [iA_set_ne y0 (by omega)]; exact y2, y3, y4⟩
theorem dpF_ok {l : List Term.D} (hg : GoodL l) : ∀ (m k : Nat) (d : List Int), k + m = d.length → d.length ≤ l.length → (∀ j : Nat, j < k → iA d j = dep l j) → (∀ j : Nat, k ≤ j → iA d j = 0) →
    ∃ d', dpF l m k d = some d' ∧ d'.length = d.length ∧ ∀ j : Nat, j < d.length → iA d' j = dep l j := by
  intro m
  induction m with
  | zero => intro k d hk _ h _; exact ⟨d, rfl, rfl, fun j hj => h j (by omega)⟩
  | succ m ih =>
    intro k d hk hl h hz
    have hmx := hg.1
    have hkd : k < d.length := by omega
    have h1 := dpL_ok (l := l) (k := k) (by omega) (partsL (tAt l k)) d hkd fun y hy => by
      have h5 := parts_lt hg (x := (k : Int)) (by omega) (by omega) y hy
      obtain ⟨z, rfl⟩ := Int.eq_ofNat_of_zero_le h5.1
      exact ⟨h5.1, h5.2, h z (by omega), dep_le hg z (by omega), (dep_spec hg (by omega) (by omega)).1⟩
    rw [hz k (Nat.le_refl _), ← dep_eq hg (by omega) (by omega)] at h1
    obtain ⟨d', a1, a2, a3⟩ := ih (k + 1) (d.set k (dep l k)) (by simp; omega) (by simp; omega) (fun j hj => by
      rcases Nat.lt_or_eq_of_le (Nat.le_of_lt_succ hj) with h9 | h9
      · rw [iA_set_ne (by omega) (by omega)]; exact h j h9
      · subst h9; exact iA_set_self hkd) (fun j hj => by rw [iA_set_ne (by omega) (by omega)]; exact hz j (by omega))
    refine ⟨d', ?_, by rw [a2]; simp, fun j hj => a3 j (by simp; exact hj)⟩
    simp only [dpF]
    rw [inB_lt (show k < l.length by omega), h1]
    exact a1
def deepI (l : List Term.D) (a : Int) : Int × Int := bif thereI l a != 0 then (0, thereI l a) else (dep l a, 0)
def s519 : Sp := .fn [.v (.sl Term), .v I] fun x => (true, r2i (deepI x.1 x.2).1 (deepI x.1 x.2).2)
theorem deep_run (l : List Term.D) (a : Int) : (bif thereI l a != 0 then some (r2i 0 (thereI l a)) else
    bif decide (0 ≤ IntKind.i64.wrap (a + 1)) && decide (IntKind.i64.wrap (a + 1) ≤ IntKind.i64.wrap (a + 1)) && decide ((8 : Int) * IntKind.i64.wrap (a + 1) ≤ 281474976710656) then
      bif lenI (zer a) then onO (FD l ((zer a).length : Int).toNat (zer a)) fun d => bif inB a d.length then some (r2i (iA d a) 0) else none else none
    else none) = some (r2i (deepI l a).1 (deepI l a).2) := by
  unfold deepI
  cases ht : thereI l a != 0 with
  | true => rfl
  | false =>
    obtain ⟨hg, h0, hi, _⟩ := within_ok (l := l) (i := a) (by simpa using ht)
    have hmx := hg.1
    have hwr : IntKind.i64.wrap (a + 1) = a + 1 := wrap64 (by omega) (by omega)
    have hzl : (zer a).length = a.toNat + 1 := by unfold zer; rw [List.length_replicate, hwr]; omega
    have hzz : ∀ j : Nat, iA (zer a) j = 0 := fun j => by
      unfold iA zer
      rw [Int.toNat_natCast, List.getD_eq_getElem?_getD, List.getElem?_replicate]
      split <;> rfl
    obtain ⟨d, a1, a2, a3⟩ := dpF_ok hg (zer a).length 0 (zer a) (by omega) (by omega) (fun j hj => by omega) (fun j _ => hzz j)
    have hln : lenI (zer a) = true := by
      unfold lenI
      rw [decide_eq_true (show ((zer a).length : Int) ≤ 9223372036854775807 by omega), Bool.and_true]
      exact decide_eq_true rfl
    have hF : FD l ((zer a).length : Int).toNat (zer a) = some d := by rw [Int.toNat_natCast]; exact a1
    have hb : inB a d.length = true := by unfold inB; rw [decide_eq_true h0, decide_eq_true (show a < (d.length : Int) by omega)]; rfl
    have hv : iA d a = dep l a := by
      have := a3 a.toNat (by omega)
      rwa [show ((a.toNat : Nat) : Int) = a by omega] at this
    rw [hwr, hln, hF, decide_eq_true (show 0 ≤ a + 1 by omega), decide_eq_true (show a + 1 ≤ a + 1 by omega), decide_eq_true (show 8 * (a + 1) ≤ 281474976710656 by omega)]
    unfold onO
    simp only [hb, hv, Bool.and_self, cond_true, cond_false]
theorem g519 : GoodS Tryd.prog N519 s519 := by
  refine good (.cons g73 (.cons g74 (.nil _))) H519 rfl (by kernel_rfl) (Λ519 FD) live519 (twoLoops (p0 := lkW F519 0) (p1 := lkW F519 1) (by kernel_rfl) loop519o loop519i) [.v (.sl Term), .v I] (by decide) [] _ fun x r hw e => ?_
  obtain ⟨l, a⟩ := x
  cases e
  exact (r519 l a).trans (deep_run l a)
end Go.AM.Seat
