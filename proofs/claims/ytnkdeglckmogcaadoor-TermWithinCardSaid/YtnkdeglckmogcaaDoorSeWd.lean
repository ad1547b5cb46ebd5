/- The seat: contracts: term.Deep; the definition's parts. -/
import Derived.Test.YtnkdeglckmogcaaDoorPlWi
set_option linter.unusedVariables false
set_option linter.unusedSimpArgs false
set_option maxRecDepth 100000
namespace Go.AM.Seat
open Go Go.AM Go.Proofs

theorem r36 (t : Term.D) : run (orc []) noL [] F36 (encA [.v Term] t) [.sl true I] =
    bif t.1 == 2 then some (.one (.sl true I none [t.2.1])) else bif t.1 == 3 then some (.one (.sl true I none [t.2.1])) else bif t.1 == 4 then some (.one (.sl true I none [t.2.1])) else
    bif t.1 == 5 then some (.one (.sl true I none [t.2.1, t.2.2])) else some (.one (.sl true I none [])) := by kernel_rfl
theorem g36 : GoodS Tryd.prog N36 s74 := by
  refine good (OrcOk.nil _) H36 rfl (by kernel_rfl) noL [] (noLoops (by kernel_rfl)) [.v Term] (by decide) [.sl true I] _ fun t r _ h => ?_
  cases h
  refine (r36 t).trans ?_
  unfold partsL
  cases t.1 == 2 <;> cases t.1 == 3 <;> cases t.1 == 4 <;> cases t.1 == 5 <;> rfl
def Γ519 : Orc := orc [(N73, s73), (N74, s74)]
abbrev live519 : List (Nat × List (Nat × Dir)) := [(0, [(0, .keep), (1, .keep), (7, .keep), (19, .keep), (21, .keep), (22, .keep)]), (2, [(0, .keep), (1, .keep), (7, .keep), (8, .keep), (19, .keep), (21, .keep), (22, .keep), (29, .keep), (30, .keep), (31, .keep)])]
def vd (l : List Term.D) (a : Int) (d : List Int) (n k : Int) : List AV := [.one (.sl false Term none l), .one (.int .i64 a), .one (.hot 19 none), .arr true I d, .one (.int .i64 n), .one (.int .i64 k)]
def wd (l : List Term.D) (a k : Int) (d : List Int) (n : Int) (ps : List Int) (m j : Int) : List AV := [.one (.sl false Term none l), .one (.int .i64 a), .one (.hot 19 none), .one (.int .i64 k), .arr true I d, .one (.int .i64 n), .one (.int .i64 k), .one (.sl true I none ps), .one (.int .i64 m), .one (.int .i64 j)]
noncomputable abbrev lo519 (Λ : Lam AV) (K : AE → List AV → Option AV) (fuel : Nat) (vs : List AV) : Option AV := loopN (aexec tb Γ519 Λ ⟨54, 0, live519⟩ (lkW F519 0).2 0) 54 0 (Lay.get ⟨54, 0, live519⟩ 0) K fuel vs
noncomputable abbrev li519 (Λ : Lam AV) (K : AE → List AV → Option AV) (fuel : Nat) (vs : List AV) : Option AV := loopN (aexec tb Γ519 Λ ⟨54, 0, live519⟩ (lkW F519 1).2 2) 54 0 (Lay.get ⟨54, 0, live519⟩ 2) K fuel vs
def dpO (d : List Int) (k x : Int) : Option (List Int) :=
  bif inB k d.length then bif inB x d.length then bif inB k d.length then some (d.set k.toNat (maxI (iA d k) (IntKind.i64.wrap (iA d x + 1)))) else none else none else none
def dpL (k : Int) : List Int → List Int → Option (List Int)
  | [], d => some d
  | x :: r, d => match dpO d k x with
    | some d' => dpL k r d'
    | none => none
def dpF (l : List Term.D) : Nat → Nat → List Int → Option (List Int)
  | 0, _, d => some d
  | m + 1, k, d => bif inB k l.length then
      match dpL k (partsL (tAt l k)) d with
      | some d' => dpF l m (k + 1) d'
      | none => none
    else none
def onO {ρ : Type} (r : Option (List Int)) (K : List Int → Option ρ) : Option ρ :=
  match r with
  | some d => K d
  | none => none
def Λ519 (F : List Term.D → Nat → List Int → Option (List Int)) : Lam AV := fun cur vs K =>
  match cur, vs with
  | 0, [.one (.sl false (.pair (.int .i64) (.pair (.int .i64) (.int .i64))) none l), .one (.int .i64 a), .one (.hot 19 none), .arr true (.int .i64) d, .one (.int .i64 n), .one (.int .i64 0)] =>
    bif decide (n = d.length) && decide (n ≤ 9223372036854775807) then onO (F l n.toNat d) fun d' => K (.exit 0) (vd l a d' n n) else none
  | 2, [.one (.sl false (.pair (.int .i64) (.pair (.int .i64) (.int .i64))) none l), .one (.int .i64 a), .one (.hot 19 none), .one (.int .i64 k), .arr true (.int .i64) d, .one (.int .i64 n), .one (.int .i64 k'), .one (.sl true (.int .i64) none ps), .one (.int .i64 m), .one (.int .i64 0)] =>
    bif decide (m = ps.length) && decide (m ≤ 9223372036854775807) && decide (k' = k) then onO (dpL k ps d) fun d' => K (.exit 2) (wd l a k d' n ps m m) else none
  | _, _ => none
theorem step519i (l : List Term.D) (a k : Int) (d : List Int) (n : Int) (ps : List Int) (m j : Int) (Λ : Lam AV) (K : AE → List AV → Option AV) (fuel : Nat) : li519 Λ K (fuel + 1) (wd l a k d n ps m j) =
    bif decide (j < m) then bif inB j ps.length then onO (dpO d k (iA ps j)) fun d' => li519 Λ K fuel (wd l a k d' n ps m (IntKind.i64.wrap (j + 1))) else none else K (.exit 2) (wd l a k d n ps m j) := by
  unfold dpO
  have e : li519 Λ K (fuel + 1) (wd l a k d n ps m j) = bif decide (j < m) then bif inB j ps.length then bif inB k d.length then bif inB (iA ps j) d.length then bif inB k d.length then
    li519 Λ K fuel (wd l a k (d.set k.toNat (maxI (iA d k) (IntKind.i64.wrap (iA d (iA ps j) + 1)))) n ps m (IntKind.i64.wrap (j + 1))) else none else none else none else none else K (.exit 2) (wd l a k d n ps m j) := by kernel_rfl
  rw [e]
  cases inB k d.length <;> cases inB (iA ps j) d.length <;> rfl
theorem step519o (F : List Term.D → Nat → List Int → Option (List Int)) (l : List Term.D) (a : Int) (d : List Int) (n k : Int) (K : AE → List AV → Option AV) (fuel : Nat) : lo519 (Λ519 F) K (fuel + 1) (vd l a d n k) =
    bif decide (k < n) then bif inB k l.length then bif lenI (partsL (tAt l k)) && decide (k = k) then
      onO (dpL k (partsL (tAt l k)) d) fun d' => lo519 (Λ519 F) K fuel (vd l a d' n (IntKind.i64.wrap (k + 1))) else none else none else K (.exit 0) (vd l a d n k) := by kernel_rfl
theorem dpO_len {d d' : List Int} {k x : Int} (h : dpO d k x = some d') : d'.length = d.length := by
  unfold dpO at h
  cases h1 : inB k d.length with
  | false => rw [h1] at h; cases h
  | true =>
    cases h2 : inB x d.length with
    | false => rw [h1, h2] at h; cases h
    | true => rw [h1, h2] at h; cases h; simp
theorem dpL_len {k : Int} : ∀ {ps d d' : List Int}, dpL k ps d = some d' → d'.length = d.length := by
  intro ps
  induction ps with
  | nil => intro d d' h; cases h; rfl
  | cons x ps ih =>
    intro d d' h
    simp only [dpL] at h
    split at h
    · rename_i d1 h1; rw [ih h, dpO_len h1]
    · cases h
theorem inner519 (Λ : Lam AV) (l : List Term.D) (a k n : Int) (ps : List Int) (hps : ps.length ≤ 9223372036854775807) (K : AE → List AV → Option AV) (out : AV) : ∀ (m j : Nat) (d : List Int), j + m = ps.length →
    onO (dpL k (ps.drop j) d) (fun d' => K (.exit 2) (wd l a k d' n ps ps.length ps.length)) = some out → ∃ fuel, li519 Λ K fuel (wd l a k d n ps ps.length j) = some out := by
  intro m
  induction m with
  | zero =>
    intro j d hj hk
    obtain rfl : j = ps.length := by omega
    rw [List.drop_length] at hk
    exact ⟨1, by rw [step519i, nlt_dec]; exact hk⟩
  | succ m ih =>
    intro j d hj hk
    have hjl : j < ps.length := by omega
    rw [iA_cons hjl] at hk
    simp only [dpL] at hk
    cases h1 : dpO d k (iA ps j) with
    | none => rw [h1] at hk; cases hk
    | some d1 =>
      rw [h1] at hk
      obtain ⟨fuel, hf⟩ := ih (j + 1) d1 (by omega) hk
      exact ⟨fuel + 1, by rw [step519i, lt_dec hjl, inB_lt hjl, h1, wrap64 (n := (j : Int) + 1) (by omega) (by omega)]; exact hf⟩
def FD (l : List Term.D) (n : Nat) (d : List Int) : Option (List Int) := dpF l n 0 d
theorem outer519 (l : List Term.D) (a : Int) (n : Nat) (hn : n ≤ 9223372036854775807) (K : AE → List AV → Option AV) (out : AV) : ∀ (m k : Nat) (d : List Int), k + m = n →
    onO (dpF l m k d) (fun d' => K (.exit 0) (vd l a d' n n)) = some out → ∃ fuel, lo519 (Λ519 FD) K fuel (vd l a d n k) = some out := by
  intro m
  induction m with
  | zero =>
    intro k d hk h
    obtain rfl : k = n := by omega
    exact ⟨1, by rw [step519o, nlt_dec]; exact h⟩
  | succ m ih =>
    intro k d hk h
    have hkl : k < n := by omega
    simp only [dpF] at h
    cases hb : inB (k : Int) l.length with
    | false => rw [hb] at h; cases h
    | true =>
      rw [hb] at h
      simp only [cond_true] at h
      cases h1 : dpL k (partsL (tAt l k)) d with
      | none => rw [h1] at h; cases h
      | some d1 =>
        rw [h1] at h
        obtain ⟨fuel, hf⟩ := ih (k + 1) d1 (by omega) h
        refine ⟨fuel + 1, ?_⟩
        rw [step519o, lt_dec hkl, hb, lenI_parts, h1, decide_eq_true (show (k : Int) = k from rfl), wrap64 (n := (k : Int) + 1) (by omega) (by omega)]
        exact hf
theorem loop519o : LoopP tb Γ519 (Λ519 FD) ⟨54, 0, live519⟩ (lkW F519 0) := by
  intro vs K out h
  have hcur : (lkW F519 0).1 = 0 := by kernel_rfl
  rw [hcur] at h ⊢
  unfold Λ519 at h
  split at h
  · rename_i l a d n _
    cases hc : (decide (n = d.length) && decide (n ≤ 9223372036854775807)) with
    | false => rw [hc] at h; cases h
    | true =>
      rw [hc] at h
      simp only [cond_true] at h
      simp only [Bool.and_eq_true, decide_eq_true_eq] at hc
      obtain ⟨rfl, hmax⟩ := hc
      rw [Int.toNat_natCast] at h
      exact outer519 l a d.length (by omega) K out d.length 0 d (by omega) h
  · exact absurd (show (0 : Nat) = 2 by assumption) (by decide)
  · cases h
theorem loop519i : LoopP tb Γ519 (Λ519 FD) ⟨54, 0, live519⟩ (lkW F519 1) := by
  intro vs K out h
  have hcur : (lkW F519 1).1 = 2 := by kernel_rfl
  rw [hcur] at h ⊢
  unfold Λ519 at h
  split at h
  · exact absurd (show (2 : Nat) = 0 by assumption) (by decide)
  · rename_i l a k d n k' ps m _
    cases hc : (decide (m = ps.length) && decide (m ≤ 9223372036854775807) && decide (k' = k)) with
    | false => rw [hc] at h; cases h
    | true =>
      rw [hc] at h
      simp only [cond_true] at h
      simp only [Bool.and_eq_true, decide_eq_true_eq] at hc
      obtain ⟨⟨rfl, hmax⟩, rfl⟩ := hc
      exact inner519 (Λ519 FD) l a k' n ps (by omega) K out ps.length 0 d (by omega) h
  · cases h
def r2i (x e : Int) : AV := .tup [(false, [.int .i64 x]), (false, [.int .i64 e])]
def zer (a : Int) : List Int := List.replicate (IntKind.i64.wrap (a + 1)).toNat 0
theorem r519 (l : List Term.D) (a : Int) : run Γ519 (Λ519 FD) live519 F519 (encA [.v (.sl Term), .v I] (l, a)) [] =
    bif thereI l a != 0 then some (r2i 0 (thereI l a)) else
    bif decide (0 ≤ IntKind.i64.wrap (a + 1)) && decide (IntKind.i64.wrap (a + 1) ≤ IntKind.i64.wrap (a + 1)) && decide ((8 : Int) * IntKind.i64.wrap (a + 1) ≤ 281474976710656) then
      bif lenI (zer a) then onO (FD l ((zer a).length : Int).toNat (zer a)) fun d => bif inB a d.length then some (r2i (iA d a) 0) else none else none
    else none := by kernel_rfl
end Go.AM.Seat
