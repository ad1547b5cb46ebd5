/- the laws of know: KnowParts. -/
import Derived.Test.YtnkdeglckmogcaaSeKLe
import Derived.Test.YtnkdeglckmogcaaSeWp
set_option linter.unusedVariables false
set_option linter.unusedSimpArgs false
set_option maxRecDepth 100000
namespace Go.AM.Seat
open Go Go.AM Go.Proofs
noncomputable def Γ10 : Orc := orc [(N28, s28), (N29, s29), (N30, s30), (N35, s35), (N36, s74)]
abbrev live10 : List (Nat × List (Nat × Dir)) := [
  (0, [(0, .keep), (1, .keep), (4, .keep), (5, .keep), (8, .keep), (39, .keep), (40, .keep), (41, .keep), (42, .keep)]),
  (2, [(0, .keep), (4, .keep), (5, .keep), (8, .keep), (39, .keep), (11, .keep), (52, .keep), (53, .keep), (54, .keep), (55, .keep)]),
  (4, [(0, .keep), (4, .keep), (5, .keep), (8, .keep), (39, .keep), (11, .keep), (52, .keep), (53, .keep), (54, .keep), (55, .keep), (67, .keep), (68, .keep), (69, .keep)]),
  (6, [(4, .keep), (5, .keep), (8, .keep), (39, .keep), (11, .keep), (52, .keep), (78, .keep), (79, .keep), (80, .keep)])]
def va10 (l : List Term.D) (h al : List Int) (r up : Bool) (b : List Bool) (n i : Int) : List AV := [.one (.sl false Term none l), .one (.sl false I none h), .one (.bool r), .one (.bool up), .one (.hot 39 none), .arr true .bool b, .one (.sl true I none al), .one (.int .i64 n), .one (.int .i64 i)]
def vb10 (l : List Term.D) (h : List Int) (r up : Bool) (b c : List Bool) (n i : Int) : List AV := [.one (.sl false Term none l), .one (.bool r), .one (.bool up), .one (.hot 39 none), .arr true .bool b, .one (.hot 52 none), .arr true .bool c, .one (.sl false I none h), .one (.int .i64 n), .one (.int .i64 i)]
def vc10 (l : List Term.D) (h : List Int) (r up : Bool) (b : List Bool) (n i : Int) (w : List Int) (c : List Bool) (m j : Int) : List AV := vb10 l h r up b c n i ++ [.one (.sl true I none w), .one (.int .i64 m), .one (.int .i64 j)]
def vd10 (l : List Term.D) (r up : Bool) (b c : List Bool) (n i : Int) : List AV := [.one (.bool r), .one (.bool up), .one (.hot 39 none), .arr true .bool b, .one (.hot 52 none), .arr true .bool c, .one (.sl false Term none l), .one (.int .i64 n), .one (.int .i64 i)]
noncomputable def lk10 (k : Nat) : Nat × Code := (loopsOf 0 (body F10)).getD k (0, .skip)
noncomputable abbrev lo10 (k c : Nat) (Λ : Lam AV) (K : AE → List AV → Option AV) (fuel : Nat) (vs : List AV) : Option AV := loopN (aexec tb Γ10 Λ ⟨123, 0, live10⟩ (lk10 k).2 c) 123 0 (Lay.get ⟨123, 0, live10⟩ c) K fuel vs
def Λ10c (vs : List AV) (K : AE → List AV → Option AV) : Option AV := match vs with
  | [.one (.sl false (.pair (.int .i64) (.pair (.int .i64) (.int .i64))) none l), .one (.bool r), .one (.bool up), .one (.hot 39 none), .arr true .bool b, .one (.hot 52 none), .arr true .bool c, .one (.sl false (.int .i64) none h), .one (.int .i64 n), .one (.int .i64 i), .one (.sl true (.int .i64) none w), .one (.int .i64 m), .one (.int .i64 0)] =>
    bif gd8 m w c then K (.exit 4) (vc10 l h r up b n i w (mrkL w c) m m) else none
  | _ => none
def okW (l : List Term.D) (c : List Bool) (x : Int) : Bool := !((withinI l x).2 != 0) && gd8 ((withinI l x).1.length : Int) (withinI l x).1 c
def mrkW (l : List Term.D) : List Int → List Bool → List Bool
  | [], c => c
  | x :: r, c => mrkW l r (mrkL (withinI l x).1 c)
def Λ10a (vs : List AV) (K : AE → List AV → Option AV) : Option AV := match vs with
  | [.one (.sl false (.pair (.int .i64) (.pair (.int .i64) (.int .i64))) none l), .one (.sl false (.int .i64) none h), .one (.bool r), .one (.bool up), .one (.hot 39 none), .arr true .bool b, .one (.sl true (.int .i64) none al), .one (.int .i64 n), .one (.int .i64 0)] =>
    bif gd8 n al b then K (.exit 0) (va10 l h al r up (mrkL al b) n n) else none
  | _ => none
def Λ10b (vs : List AV) (K : AE → List AV → Option AV) : Option AV := match vs with
  | [.one (.sl false (.pair (.int .i64) (.pair (.int .i64) (.int .i64))) none l), .one (.bool r), .one (.bool up), .one (.hot 39 none), .arr true .bool b, .one (.hot 52 none), .arr true .bool c, .one (.sl false (.int .i64) none h), .one (.int .i64 n), .one (.int .i64 0)] =>
    bif decide (n = h.length) && (decide (h.length ≤ 1000000) && h.all (okW l c)) then K (.exit 2) (vb10 l h r up b (mrkW l h c) n n) else none
  | _ => none
def a10 (l : List Term.D) (b : List Bool) (i : Int) : Bool := bif tK l i == 1 then bA b i else false
def A10 (l : List Term.D) (b c : List Bool) (i : Int) : Bool := bif a10 l b i then !bA c i else false
def p10 (l : List Term.D) (i : Int) : List Int := partsL (l.getD i.toNat ((Ty.int IntKind.i64).pair ((Ty.int IntKind.i64).pair (Ty.int IntKind.i64))).dflt)
def q10 (l : List Term.D) (i : Int) : Bool := ((p10 l i).length : Int) == 1
def f10 (l : List Term.D) (i : Int) : Int := (p10 l i).getD (Int.toNat 0) (Ty.int IntKind.i64).dflt
def e10 (l : List Term.D) (b : List Bool) (i : Int) : Bool := bif q10 l i then bA b (f10 l i) else false
def B10 (l : List Term.D) (b : List Bool) (i : Int) : Bool := bif e10 l b i then !bA b i else false
def good10 (l : List Term.D) (b c : List Bool) (i : Int) : Bool := (inB i b.length || !boolBeq (tK l i == 1) true) && ((inB i c.length || !boolBeq (a10 l b i) true) && (!A10 l b c i && ((inB 0 (p10 l i).length || !boolBeq (q10 l i) true) && ((inB (f10 l i) b.length || !boolBeq (q10 l i) true) && ((inB i b.length || !boolBeq (e10 l b i) true) && !B10 l b i)))))
def Λ10d (vs : List AV) (K : AE → List AV → Option AV) : Option AV := match vs with
  | [.one (.bool r), .one (.bool up), .one (.hot 39 none), .arr true .bool b, .one (.hot 52 none), .arr true .bool c, .one (.sl false (.pair (.int .i64) (.pair (.int .i64) (.int .i64))) none l), .one (.int .i64 n), .one (.int .i64 0)] =>
    bif decide (n = l.length) && (decide (l.length ≤ 1000000) && !anyN (fun i => !good10 l b c i) l.length) then K (.exit 6) (vd10 l r up b c n n) else none
  | _ => none
def Λ10 : Lam AV := fun cur vs K => match cur with
  | 0 => Λ10a vs K
  | 2 => Λ10b vs K
  | 4 => Λ10c vs K
  | 6 => Λ10d vs K
  | _ => none
theorem stepa10 (l : List Term.D) (h al : List Int) (r up : Bool) (b : List Bool) (n i : Int) (Λ : Lam AV) (K : AE → List AV → Option AV) (fuel : Nat) : lo10 0 0 Λ K (fuel + 1) (va10 l h al r up b n i) =
    bif decide (i < n) then bif inB i al.length then bif inB (lA al i) b.length then lo10 0 0 Λ K fuel (va10 l h al r up (mrk b (lA al i)) n (IntKind.i64.wrap (i + 1))) else none else none else K (.exit 0) (va10 l h al r up b n i) := by kernel_rfl
theorem stepb10 (l : List Term.D) (h : List Int) (r up : Bool) (b c : List Bool) (n i : Int) (K : AE → List AV → Option AV) (fuel : Nat) : lo10 1 2 Λ10 K (fuel + 1) (vb10 l h r up b c n i) =
    bif decide (i < n) then bif inB i h.length then bif (withinI l (lA h i)).2 != 0 then K .ret (vb10 l h false up b c n i) else
      bif gd8 ((withinI l (lA h i)).1.length : Int) (withinI l (lA h i)).1 c then lo10 1 2 Λ10 K fuel (vb10 l h r up b (mrkL (withinI l (lA h i)).1 c) n (IntKind.i64.wrap (i + 1))) else none
    else none else K (.exit 2) (vb10 l h r up b c n i) := by kernel_rfl
theorem stepc10 (l : List Term.D) (h : List Int) (r up : Bool) (b : List Bool) (n i : Int) (w : List Int) (c : List Bool) (m j : Int) (Λ : Lam AV) (K : AE → List AV → Option AV) (fuel : Nat) : lo10 2 4 Λ K (fuel + 1) (vc10 l h r up b n i w c m j) =
    bif decide (j < m) then bif inB j w.length then bif inB (lA w j) c.length then lo10 2 4 Λ K fuel (vc10 l h r up b n i w (mrk c (lA w j)) m (IntKind.i64.wrap (j + 1))) else none else none else K (.exit 4) (vc10 l h r up b n i w c m j) := by kernel_rfl
theorem stepd10 (l : List Term.D) (r up : Bool) (b c : List Bool) (n i : Int) (Λ : Lam AV) (K : AE → List AV → Option AV) (fuel : Nat) : lo10 3 6 Λ K (fuel + 1) (vd10 l r up b c n i) =
    bif decide (i < n) then bif inB i l.length then bif inB i b.length || !boolBeq (tK l i == 1) true then bif inB i c.length || !boolBeq (a10 l b i) true then bif A10 l b c i then K .ret (vd10 l false up b c n i) else
      bif inB 0 (p10 l i).length || !boolBeq (q10 l i) true then bif inB (f10 l i) b.length || !boolBeq (q10 l i) true then bif inB i b.length || !boolBeq (e10 l b i) true then bif B10 l b i then K .ret (vd10 l false up b c n i)
      else lo10 3 6 Λ K fuel (vd10 l r up b c n (IntKind.i64.wrap (i + 1))) else none else none else none else none else none else none else K (.exit 6) (vd10 l r up b c n i) := by kernel_rfl
theorem loopa10 : LoopP tb Γ10 Λ10 ⟨123, 0, live10⟩ (lk10 0) := by
  intro vs K out hE
  have hcur : (lk10 0).1 = 0 := by kernel_rfl
  rw [hcur] at hE ⊢
  replace hE : Λ10a vs K = some out := hE
  unfold Λ10a at hE
  split at hE
  · rename_i l h r up b al n
    cases hc : gd8 n al b with
    | false => rw [hc] at hE; cases hE
    | true =>
      rw [hc] at hE
      simp only [cond_true] at hE
      obtain ⟨h1, hmax, hall⟩ := gd8_of hc
      subst h1
      exact markN (xs := al) (F := fun fuel b i => lo10 0 0 Λ10 K fuel (va10 l h al r up b al.length i)) (Kx := fun b i => K (.exit 0) (va10 l h al r up b al.length i)) hmax (fun fuel b i => stepa10 l h al r up b al.length i Λ10 K fuel) hall hE
  · cases hE
theorem loopc10 : LoopP tb Γ10 Λ10 ⟨123, 0, live10⟩ (lk10 2) := by
  intro vs K out hE
  have hcur : (lk10 2).1 = 4 := by kernel_rfl
  rw [hcur] at hE ⊢
  replace hE : Λ10c vs K = some out := hE
  unfold Λ10c at hE
  split at hE
  · rename_i l r up b c h n i w m
    cases hc : gd8 m w c with
    | false => rw [hc] at hE; cases hE
    | true =>
      rw [hc] at hE
      simp only [cond_true] at hE
      obtain ⟨h1, hmax, hall⟩ := gd8_of hc
      subst h1
      exact markN (xs := w) (F := fun fuel c j => lo10 2 4 Λ10 K fuel (vc10 l h r up b n i w c w.length j)) (Kx := fun c j => K (.exit 4) (vc10 l h r up b n i w c w.length j)) hmax (fun fuel c j => stepc10 l h r up b n i w c w.length j Λ10 K fuel) hall hE
  · cases hE
theorem okW_len {l : List Term.D} {c c' : List Bool} (h : c'.length = c.length) (x : Int) : okW l c' x = okW l c x := by unfold okW gd8; rw [h]
theorem loopb10 : LoopP tb Γ10 Λ10 ⟨123, 0, live10⟩ (lk10 1) := by
  intro vs K out hE
  have hcur : (lk10 1).1 = 2 := by kernel_rfl
  rw [hcur] at hE ⊢
  replace hE : Λ10b vs K = some out := hE
  unfold Λ10b at hE
  split at hE
  · rename_i l r up b c h n
    cases hc : (decide (n = h.length) && (decide (h.length ≤ 1000000) && h.all (okW l c))) with
    | false => rw [hc] at hE; cases hE
    | true =>
      rw [hc] at hE
      simp only [cond_true] at hE
      simp only [Bool.and_eq_true, decide_eq_true_eq] at hc
      obtain ⟨rfl, hl, hall⟩ := hc
      have key : ∀ (m j : Nat) (c' : List Bool), j + m = h.length → c'.length = c.length → K (.exit 2) (vb10 l h r up b (mrkW l (h.drop j) c') h.length h.length) = some out → ∃ fuel, lo10 1 2 Λ10 K fuel (vb10 l h r up b c' h.length j) = some out := by
        intro m
        induction m with
        | zero =>
          intro j c' hj _ hE
          obtain rfl : j = h.length := by omega
          rw [List.drop_length] at hE
          exact ⟨1, by rw [stepb10, nlt_dec]; exact hE⟩
        | succ m ih =>
          intro j c' hj hcl hE
          have hlt : j < h.length := by omega
          have ho : okW l c' (lA h j) = true := by rw [okW_len hcl]; exact List.all_eq_true.1 hall _ (by unfold lA; simp [hlt])
          unfold okW at ho
          rw [Bool.and_eq_true, Bool.not_eq_true'] at ho
          rw [lA_drop hlt, mrkW] at hE
          obtain ⟨fuel, hf⟩ := ih (j + 1) _ (by omega) (by rw [mrkL_len]; exact hcl) hE
          exact ⟨fuel + 1, by rw [stepb10, lt_dec hlt, inB_lt hlt, ho.1, ho.2, wrap64 (n := (j : Int) + 1) (by omega) (by omega)]; exact hf⟩
      exact key h.length 0 c (by omega) rfl hE
  · cases hE
theorem loopd10 : LoopP tb Γ10 Λ10 ⟨123, 0, live10⟩ (lk10 3) := by
  intro vs K out hE
  have hcur : (lk10 3).1 = 6 := by kernel_rfl
  rw [hcur] at hE ⊢
  replace hE : Λ10d vs K = some out := hE
  unfold Λ10d at hE
  split at hE
  · rename_i r up b c l n
    cases hc : (decide (n = l.length) && (decide (l.length ≤ 1000000) && !anyN (fun i => !good10 l b c i) l.length)) with
    | false => rw [hc] at hE; cases hE
    | true =>
      rw [hc] at hE
      simp only [cond_true] at hE
      simp only [Bool.and_eq_true, decide_eq_true_eq, Bool.not_eq_true'] at hc
      obtain ⟨rfl, hl, hall⟩ := hc
      have key : ∀ (m j : Nat), j + m = l.length → ∃ fuel, lo10 3 6 Λ10 K fuel (vd10 l r up b c l.length j) = some out := by
        intro m
        induction m with
        | zero =>
          intro j hj
          obtain rfl : j = l.length := by omega
          exact ⟨1, by rw [stepd10, nlt_dec]; exact hE⟩
        | succ m ih =>
          intro j hj
          have hlt : j < l.length := by omega
          have ho : good10 l b c j = true := by
            cases hb : good10 l b c j with
            | true => rfl
            | false =>
              have : anyN (fun i => !good10 l b c i) l.length = true := anyN_iff.2 ⟨j, hlt, by rw [hb]; rfl⟩
              rw [this] at hall; cases hall
          unfold good10 at ho
          rw [Bool.and_eq_true, Bool.and_eq_true, Bool.and_eq_true, Bool.and_eq_true, Bool.and_eq_true, Bool.and_eq_true, Bool.not_eq_true', Bool.not_eq_true'] at ho
          obtain ⟨o1, o2, o3, o4, o5, o6, o7⟩ := ho
          obtain ⟨fuel, hf⟩ := ih (j + 1) (by omega)
          exact ⟨fuel + 1, by rw [stepd10, lt_dec hlt, inB_lt hlt, o1, o2, o3, o4, o5, o6, o7, wrap64 (n := (j : Int) + 1) (by omega) (by omega)]; exact hf⟩
      exact key l.length 0 (by omega)
  · cases hE
def i10 (l : List Term.D) (h : List Int) : List Bool := mrkL (allK l h).1 (z8 l)
def w10 (l : List Term.D) (h : List Int) : List Bool := mrkW l h (z8 l)
theorem r10 (l : List Term.D) (h : List Int) : run Γ10 Λ10 live10 F10 [.one (.sl false Term none l), .one (.sl false I none h)] [] =
    bif !fewK l [h] then some (.one (.bool true)) else bif (allK l h).2 != 0 then some (.one (.bool true)) else bif mk8 l then bif gd8 ((allK l h).1.length : Int) (allK l h).1 (z8 l) then bif mk8 l then
      bif decide ((h.length : Int) = h.length) && (decide (h.length ≤ 1000000) && h.all (okW l (z8 l))) then
        bif decide ((l.length : Int) = l.length) && (decide (l.length ≤ 1000000) && !anyN (fun i => !good10 l (i10 l h) (w10 l h) i) l.length) then some (.one (.bool true)) else none
      else none else none else none else none := by kernel_rfl
/-! ### what atoms one has -/
theorem Reach.trans {l : List Term.D} {x y : Int} (h1 : Reach l x y) : ∀ {z : Int}, Reach l y z → Reach l x z := by
  intro z h2
  induction h2 with
  | self => exact h1
  | part _ hy ih => exact .part ih hy
theorem Reach.head {l : List Term.D} {y x : Int} (h : Reach l y x) : x = y ∨ ∃ p ∈ partsL (tAt l y), Reach l p x := by
  induction h with
  | self => exact .inl rfl
  | part hx hy ih =>
    rcases ih with rfl | ⟨p, hp, hr⟩
    · exact .inr ⟨_, hy, .self⟩
    · exact .inr ⟨p, hp, .part hr hy⟩
theorem parts_kd {l : List Term.D} {x : Int} (h : TOk (kd l x) (pa l x) (pb l x) x) : ∀ p ∈ partsL (tAt l x), kd l x ≠ 1 ∧ (p = pa l x ∨ (kd l x = 5 ∧ p = pb l x)) := by
  intro p hp
  have e : partsL (tAt l x) = bif kd l x == 2 then [pa l x] else bif kd l x == 3 then [pa l x] else bif kd l x == 4 then [pa l x] else bif kd l x == 5 then [pa l x, pb l x] else [] := rfl
  rw [e] at hp
  have := h.fk
  have hk : kd l x = 1 ∨ kd l x = 2 ∨ kd l x = 3 ∨ kd l x = 4 ∨ kd l x = 5 := by omega
  rcases hk with k | k | k | k | k <;> rw [k] at hp ⊢ <;> simp at hp ⊢ <;> omega
theorem parts_has {l : List Term.D} {x : Int} (h5 : kd l x = 5) : pa l x ∈ partsL (tAt l x) ∧ pb l x ∈ partsL (tAt l x) := by
  have e : partsL (tAt l x) = bif kd l x == 2 then [pa l x] else bif kd l x == 3 then [pa l x] else bif kd l x == 4 then [pa l x] else bif kd l x == 5 then [pa l x, pb l x] else [] := rfl
  rw [e, h5]; simp
theorem atoms_in {l : List Term.D} (hg : GoodL l) {h : List Int} {y : Int} (H : Der l h y) : ∀ x, Reach l y x → kd l x = 1 → ∃ i ∈ h, Reach l i x := by
  induction H with
  | base hy => intro x hx _; exact ⟨_, hy, hx⟩
  | made h1 h2 _ _ iha ihb =>
    intro x hx hk
    rcases hx.head with rfl | ⟨p, hp, hr⟩
    · exact absurd hk h2
    · rcases (parts_kd (hg.tok h1) p hp).2 with rfl | ⟨h5, rfl⟩
      · exact iha x hr hk
      · exact ihb h5 x hr hk
  | out h1 h5 _ _ ihw _ =>
    intro x hx hk
    exact ihw x ((Reach.part .self (parts_has h5).2).trans hx) hk
theorem mrkW_len (l : List Term.D) : ∀ (xs : List Int) (c : List Bool), (mrkW l xs c).length = c.length := by
  intro xs
  induction xs with
  | nil => intro c; rfl
  | cons x r ih => intro c; rw [mrkW, ih, mrkL_len]
theorem mrkW_at (l : List Term.D) : ∀ (xs : List Int) (c : List Bool), (∀ x ∈ xs, ∀ y ∈ (withinI l x).1, 0 ≤ y ∧ y < (c.length : Int)) → ∀ y : Int, 0 ≤ y → (bA (mrkW l xs c) y = true ↔ bA c y = true ∨ ∃ x ∈ xs, y ∈ (withinI l x).1) := by
  intro xs
  induction xs with
  | nil => intro c _ y _; simp [mrkW]
  | cons x r ih =>
    intro c h y hy
    rw [mrkW, ih _ (fun z hz w hw => by rw [mrkL_len]; exact h z (by simp [hz]) w hw) y hy, mrkL_at _ _ (h x (by simp)) y hy]
    constructor
    · rintro ((h | h) | ⟨z, hz, h⟩)
      · exact .inl h
      · exact .inr ⟨x, by simp, h⟩
      · exact .inr ⟨z, by simp [hz], h⟩
    · rintro (h9 | ⟨z, hz, h9⟩)
      · exact .inl (.inl h9)
      · rcases List.mem_cons.1 hz with e | hz
        · exact .inl (.inr (e ▸ h9))
        · exact .inr ⟨z, hz, h9⟩
theorem good10f : ∀ x, Good Try.prog N10 (encA [.v (.sl Term), .v (.sl I)] x) (.one (.bool true)) := by
  intro x
  have g : GoodS Try.prog N10 (.fn [.v (.sl Term), .v (.sl I)] fun _ => (true, .one (.bool true))) := by
    refine good (.cons g28 (.cons g29 (.cons g30 (.cons g35 (.cons g36p (.nil _)))))) H10 rfl (by kernel_rfl) Λ10 live10 (fun p hp => ?_) [.v (.sl Term), .v (.sl I)] (by decide) [] _ fun x r hw e => ?_
    · have hl : loopsOf 0 (body F10) = [lk10 0, lk10 1, lk10 2, lk10 3] := by kernel_rfl
      rw [hl] at hp
      simp only [List.mem_cons, List.not_mem_nil, or_false] at hp
      rcases hp with rfl | rfl | rfl | rfl
      · exact loopa10
      · exact loopb10
      · exact loopc10
      · exact loopd10
    obtain ⟨l, h⟩ := x
    cases e
    refine (r10 l h).trans ?_
    cases hf : fewK l [h] with
    | false => rfl
    | true =>
      simp only [Bool.not_true, cond_false]
      cases e1 : (allK l h).2 != 0 with
      | true => rfl
      | false =>
        obtain ⟨hh, hg⟩ := allK_ok (l := l) (h := h) (by simpa using e1)
        have hk := known_okp hh hg
        have hl1 := hh.1
        have hl2 := hg.1
        have ht : ∀ x : Int, x ∈ h → thereI l x = 0 := fun x hx => by
          have hI := hh.2 x hx
          unfold thereI
          rw [decide_eq_false (show ¬ x < 0 by have := hI.1; omega), decide_eq_false (show ¬ x ≥ (l.length : Int) by have := hI.2; omega)]
          exact checkL_iff.2 hg
        have hwr : ∀ x : Int, x ∈ h → ∀ y ∈ (withinI l x).1, 0 ≤ y ∧ y < ((z8 l).length : Int) := fun x hx y hy => by
          have := (within_mem (ht x hx)).2.2.2 y hy
          have hI := hh.2 x hx
          rw [z8_len]; have := hI.2; omega
        have hW : h.all (okW l (z8 l)) = true := List.all_eq_true.2 fun x hx => by
          obtain ⟨w1, w2, w3, w4⟩ := within_mem (ht x hx)
          have hlen : (withinI l x).1.length ≤ 65536 := by
            have h9 := nodup_in (n := l.length) (q := (withinI l x).1) (w3.imp fun h e => by subst e; exact absurd h (Int.lt_irrefl _)) fun y hy => by
              have := hwr x hx y hy; rw [z8_len] at this; exact this
            omega
          unfold okW gd8
          rw [w1, decide_eq_true rfl, decide_eq_true (show ((withinI l x).1.length : Int) ≤ 9223372036854775807 by omega)]
          simp only [bne_self_eq_false, Bool.not_false, Bool.true_and]
          exact List.all_eq_true.2 fun y hy => inB_iff.2 (hwr x hx y hy)
        have ga : gd8 ((allK l h).1.length : Int) (allK l h).1 (z8 l) = true := by rw [allK_of hh hg]; exact gd8_ok (ys := []) hk
        have hib : ∀ x, InL l x → (bA (i10 l h) x = true ↔ Der l h x) := fun x hx => by
          unfold i10
          rw [allK_of hh hg, mrkL_at _ _ (fun y hy => by rw [z8_len]; exact hk.2 y hy) x hx.1, z8_at, known_mem hh hg]; simp
        have hwb : ∀ x, InL l x → (bA (w10 l h) x = true ↔ ∃ i ∈ h, Reach l i x) := fun x hx => by
          unfold w10
          rw [mrkW_at l h (z8 l) hwr x hx.1, z8_at]
          simp only [Bool.false_eq_true, false_or]
          exact ⟨fun ⟨i, hi, hm⟩ => ⟨i, hi, ((within_mem (ht i hi)).2.1 x).1 hm⟩, fun ⟨i, hi, hr⟩ => ⟨i, hi, ((within_mem (ht i hi)).2.1 x).2 hr⟩⟩
        have hil : (i10 l h).length = l.length := by unfold i10; rw [mrkL_len, z8_len]
        have hwl : (w10 l h).length = l.length := by unfold w10; rw [mrkW_len, z8_len]
        have hgood : anyN (fun i => !good10 l (i10 l h) (w10 l h) i) l.length = false := by
          cases ha : anyN (fun i => !good10 l (i10 l h) (w10 l h) i) l.length with
          | false => rfl
          | true =>
            exfalso
            obtain ⟨k, hkl, hx⟩ := anyN_iff.1 ha
            have hI : InL l (k : Int) := ⟨by omega, by omega⟩
            have hT := hg.tok hI
            have eK : tK l k = kd l k := rfl
            have eA : A10 l (i10 l h) (w10 l h) k = false := by
              unfold A10 a10
              rw [eK]
              cases h1 : kd l k == 1 with
              | false => rfl
              | true =>
                cases h2 : bA (i10 l h) k with
                | false => rfl
                | true =>
                  have := (hwb k hI).2 (atoms_in hg ((hib k hI).1 h2) k .self (eq_of_beq h1))
                  rw [this]; rfl
            have e1 : q10 l k = true → kd l k ≠ 1 ∧ kd l k ≠ 5 ∧ f10 l k = pa l k := fun hq => by
              have e : p10 l k = bif kd l k == 2 then [pa l k] else bif kd l k == 3 then [pa l k] else bif kd l k == 4 then [pa l k] else bif kd l k == 5 then [pa l k, pb l k] else [] := rfl
              have := hT.fk
              have hk : kd l k = 1 ∨ kd l k = 2 ∨ kd l k = 3 ∨ kd l k = 4 ∨ kd l k = 5 := by omega
              unfold q10 at hq
              unfold f10
              rw [e] at hq ⊢
              rcases hk with k9 | k9 | k9 | k9 | k9 <;> rw [k9] at hq ⊢ <;> simp at hq ⊢
            have eB : B10 l (i10 l h) k = false := by
              unfold B10 e10
              cases h1 : q10 l k with
              | false => rfl
              | true =>
                obtain ⟨n1, n5, ef⟩ := e1 h1
                have hpa := hT.fa n1
                have hA : InL l (pa l k) := ⟨hpa.1, by have := hI.2; omega⟩
                rw [ef]
                cases h2 : bA (i10 l h) (pa l k) with
                | false => rfl
                | true =>
                  have := (hib k hI).2 (.made hI n1 ((hib _ hA).1 h2) fun e => absurd e n5)
                  rw [this]; rfl
            have g3 : (inB 0 (p10 l k).length || !boolBeq (q10 l k) true) = true := by
              cases h1 : q10 l k with
              | false => simp [boolBeq]
              | true =>
                have : (p10 l k).length = 1 := by unfold q10 at h1; have := eq_of_beq h1; omega
                rw [this]; rfl
            have g4 : (inB (f10 l k) (i10 l h).length || !boolBeq (q10 l k) true) = true := by
              cases h1 : q10 l k with
              | false => simp [boolBeq]
              | true =>
                obtain ⟨n1, _, ef⟩ := e1 h1
                have hpa := hT.fa n1
                rw [ef, hil, inB_iff.2 ⟨hpa.1, by have := hI.2; omega⟩]; rfl
            have : good10 l (i10 l h) (w10 l h) k = true := by
              unfold good10
              rw [eA, eB, g3, g4, hil, hwl, inB_iff.2 hI]; rfl
            rw [this] at hx; cases hx
        rw [mk8_ok hg, ga, hW, hgood, decide_eq_true (show h.length ≤ 1000000 by omega), decide_eq_true (show l.length ≤ 1000000 by omega)]
        simp only [decide_true]; rfl
  exact g.2.1 _ _ (by kernel_rfl)
end Go.AM.Seat
