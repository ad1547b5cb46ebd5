/- The seat: contracts: the definition's Eval. -/
import Derived.Test.YtnkdeglckmogcaaPlER
import Derived.Test.YtnkdeglckmogcaaSe10
set_option linter.unusedVariables false
set_option linter.unusedSimpArgs false
set_option maxRecDepth 100000
namespace Go.AM.Seat
open Go Go.AM Go.Proofs

def Γ43 : Orc := orc [(N83, s35), (N36, s74), (N57, s46), (N55, s53)]
abbrev live43 : List (Nat × List (Nat × Dir)) := [(0, [(0, .keep), (1, .keep), (2, .keep), (6, .keep), (7, .keep), (8, .keep), (32, .keep), (33, .keep), (34, .keep)]),
  (2, [(0, .keep), (1, .keep), (2, .keep), (6, .keep), (7, .keep), (8, .keep), (32, .keep), (33, .keep), (34, .keep), (42, .keep), (43, .keep), (44, .keep)]),
  (4, [(0, .keep), (1, .keep), (2, .keep), (6, .keep), (7, .keep), (8, .keep), (57, .keep), (58, .keep), (59, .keep)]),
  (6, [(0, .keep), (1, .keep), (2, .keep), (6, .keep), (7, .keep), (16, .keep), (83, .keep), (84, .keep), (85, .keep), (86, .keep)])]
abbrev i4 (n : Int) : AV := .one (.int .i64 n)
abbrev z9 : AV := .own [.bool false, .bool false, .int .u64 0, .int .u64 0, .int .u64 0, .int .u64 0, .int .u64 0, .int .u64 0, .int .i64 0]
def c0 (l : List Term.D) (i : Int) (g : List Block.D) (r : Int) (W : List Int) (n j : Int) : List AV := [.one (.sl false Term none l), i4 i, .one (.sl false Block none g), z9, i4 r, .one (.sl true I none W), .one (.sl true I none W), i4 n, i4 j]
def c2 (l : List Term.D) (i : Int) (g : List Block.D) (r : Int) (W : List Int) (n j : Int) (ps : List Int) (m k : Int) : List AV := c0 l i g r W n j ++ [.one (.sl true I none ps), i4 m, i4 k]
def c6 (l : List Term.D) (i : Int) (g : List Block.D) (r : Int) (a : List Value.D) (W : List Int) (n j : Int) : List AV := [.one (.sl false Term none l), i4 i, .one (.sl false Block none g), z9, i4 r, .one (.hot 83 none), .arr true Value a, .one (.sl true I none W), i4 n, i4 j]
noncomputable abbrev l43 (k b : Nat) (Λ : Lam AV) (K : AE → List AV → Option AV) (fuel : Nat) (vs : List AV) : Option AV := loopN (aexec tb Γ43 Λ ⟨149, 0, live43⟩ (lkW F43 k).2 b) 149 0 (Lay.get ⟨149, 0, live43⟩ b) K fuel vs
theorem findLoop {xs : List Int} {p : Int → Bool} {F : Nat → Int → Option AV} {E : Option AV} {R : Int → Option AV} (h1 : ∀ fuel, F (fuel + 1) xs.length = E)
    (h2 : ∀ fuel (j : Nat), j < xs.length → F (fuel + 1) j = bif p (iX xs j) then R j else F fuel ((j + 1 : Nat) : Int)) {out : AV} (h : (bif decide (idxFrom p xs 0 < 0) then E else R (idxFrom p xs 0)) = some out) : ∃ fuel, F fuel 0 = some out := by
  have key : ∀ (m j : Nat), j + m = xs.length → (bif decide (idxFrom p (xs.drop j) j < 0) then E else R (idxFrom p (xs.drop j) j)) = some out → ∃ fuel, F fuel j = some out := by
    intro m
    induction m with
    | zero =>
      intro j hj h
      obtain rfl : j = xs.length := by omega
      rw [List.drop_length] at h
      exact ⟨1, (h1 0).trans h⟩
    | succ m ih =>
      intro j hj h
      have hlt : j < xs.length := by omega
      rw [idxFrom_drop _ _ _ hlt] at h
      have hx : iX xs j = xs.getD j 0 := rfl
      cases hp : p (xs.getD j 0) with
      | true =>
        rw [hp] at h
        simp only [cond_true] at h
        rw [decide_eq_false (show ¬ ((j : Nat) : Int) < 0 by omega)] at h
        exact ⟨1, by rw [h2 0 j hlt, hx, hp]; exact h⟩
      | false =>
        rw [hp] at h
        obtain ⟨fuel, hf⟩ := ih (j + 1) (by omega) h
        exact ⟨fuel + 1, by rw [h2 fuel j hlt, hx, hp]; exact hf⟩
  exact key xs.length 0 (by omega) h
def k5 (l : List Term.D) (p : Int) : Bool := (tAt l p).1 == 5
def shP (l : List Term.D) (k : Int) : Bool := (partsL (tAt l k)).any (k5 l)
def inL' (l : List Term.D) (k : Int) : Bool := inB k l.length
def okP' (l : List Term.D) (k : Int) : Bool := inB k l.length && (partsL (tAt l k)).all (inL' l)
def vA (a : List Value.D) (p : Int) : Value.D := a.getD p.toNat Value.dflt
def okG (m : Nat) (l : List Term.D) (g : List Block.D) (k : Int) : Bool :=
  inB k l.length && ((bif (tAt l k).1 == 1 then inB (tAt l k).2.1 g.length else bif (tAt l k).1 == 5 then inB (tAt l k).2.1 m && inB (tAt l k).2.2 m else inB (tAt l k).2.1 m) && inB k m)
def evG (l : List Term.D) (g : List Block.D) : List Int → List Value.D → List Value.D
  | [], a => a
  | k :: r, a => evG l g r (a.set k.toNat (plainW (vA a) (tAt l k) g))
def len1 (n : Int) (W W' : List Int) : Bool := decide (n = W.length) && decide (n ≤ 9223372036854775807) && decide (W' = W)
/-- The cells of the zero value. -/
def isZ9 (zs : List SV) : Bool :=
  match zs with
  | [.bool a, .bool b, .int .u64 c, .int .u64 d, .int .u64 e, .int .u64 f, .int .u64 g, .int .u64 h, .int .i64 k] => !a && (!b && (c == 0 && (d == 0 && (e == 0 && (f == 0 && (g == 0 && (h == 0 && k == 0)))))))
  | _ => false
theorem isZ9_eq {zs : List SV} (h : isZ9 zs = true) : zs = [.bool false, .bool false, .int .u64 0, .int .u64 0, .int .u64 0, .int .u64 0, .int .u64 0, .int .u64 0, .int .i64 0] := by
  unfold isZ9 at h
  split at h
  · simp only [Bool.and_eq_true, Bool.not_eq_true', beq_iff_eq] at h
    obtain ⟨rfl, rfl, rfl, rfl, rfl, rfl, rfl, rfl, rfl⟩ := h
    rfl
  · cases h
def Λ43 : Lam AV := fun cur vs K =>
  match cur, vs with
  | 0, [.one (.sl false (.pair (.int .i64) (.pair (.int .i64) (.int .i64))) none l), .one (.int .i64 i), .one (.sl false (.pair (.int .u64) (.int .u64)) none g), .own zs, .one (.int .i64 r), .one (.sl true (.int .i64) none W), .one (.sl true (.int .i64) none W'), .one (.int .i64 n), .one (.int .i64 0)] =>
    bif isZ9 zs && len1 n W W' && W.all (okP' l) then (bif decide (idxFrom (shP l) W 0 < 0) then K (.exit 0) (c0 l i g r W n n) else K .ret (c0 l i g 1 W n (idxFrom (shP l) W 0))) else none
  | 2, [.one (.sl false (.pair (.int .i64) (.pair (.int .i64) (.int .i64))) none l), .one (.int .i64 i), .one (.sl false (.pair (.int .u64) (.int .u64)) none g), .own zs, .one (.int .i64 r), .one (.sl true (.int .i64) none W), .one (.sl true (.int .i64) none W'), .one (.int .i64 n), .one (.int .i64 j), .one (.sl true (.int .i64) none ps), .one (.int .i64 m), .one (.int .i64 0)] =>
    bif isZ9 zs && len1 m ps ps && decide (W' = W) && ps.all (inL' l) then (bif decide (idxFrom (k5 l) ps 0 < 0) then K (.exit 2) (c2 l i g r W n j ps m m) else K .ret (c2 l i g 1 W n j ps m (idxFrom (k5 l) ps 0))) else none
  | 4, [.one (.sl false (.pair (.int .i64) (.pair (.int .i64) (.int .i64))) none l), .one (.int .i64 i), .one (.sl false (.pair (.int .u64) (.int .u64)) none g), .own zs, .one (.int .i64 r), .one (.sl true (.int .i64) none W), .one (.sl true (.int .i64) none W'), .one (.int .i64 n), .one (.int .i64 0)] =>
    bif isZ9 zs && len1 n W W' && W.all (inL' l) then (bif decide (idxFrom (q81 l g).2 W 0 < 0) then K (.exit 4) (c0 l i g r W n n) else K .ret (c0 l i g 4 W n (idxFrom (q81 l g).2 W 0))) else none
  | 6, [.one (.sl false (.pair (.int .i64) (.pair (.int .i64) (.int .i64))) none l), .one (.int .i64 i), .one (.sl false (.pair (.int .u64) (.int .u64)) none g), .own zs, .one (.int .i64 r), .one (.hot 83 none), .arr true (.pair .bool (.pair .bool (.pair (.pair (.int .u64) (.int .u64)) (.pair (.pair (.pair (.int .u64) (.int .u64)) (.pair (.int .u64) (.int .u64))) (.int .i64))))) a, .one (.sl true (.int .i64) none W), .one (.int .i64 n), .one (.int .i64 0)] =>
    bif isZ9 zs && len1 n W W && W.all (okG a.length l g) then K (.exit 6) (c6 l i g r (evG l g W a) W n n) else none
  | _, _ => none
theorem step43b (l : List Term.D) (i : Int) (g : List Block.D) (r : Int) (W : List Int) (n j : Int) (ps : List Int) (m k : Int) (Λ : Lam AV) (K : AE → List AV → Option AV) (fuel : Nat) : l43 1 2 Λ K (fuel + 1) (c2 l i g r W n j ps m k) =
    bif decide (k < m) then bif inB k ps.length then bif inB (iX ps k) l.length then bif k5 l (iX ps k) then K .ret (c2 l i g 1 W n j ps m k) else l43 1 2 Λ K fuel (c2 l i g r W n j ps m (IntKind.i64.wrap (k + 1))) else none else none else K (.exit 2) (c2 l i g r W n j ps m k) := by kernel_rfl
theorem step43c (l : List Term.D) (i : Int) (g : List Block.D) (r : Int) (W : List Int) (n j : Int) (Λ : Lam AV) (K : AE → List AV → Option AV) (fuel : Nat) : l43 2 4 Λ K (fuel + 1) (c0 l i g r W n j) =
    bif decide (j < n) then bif inB j W.length then bif inB (iX W j) l.length then bif inB (iX W j) l.length || !boolBeq ((tAt l (iX W j)).1 == 1) true then bif (q81 l g).2 (iX W j) then K .ret (c0 l i g 4 W n j) else l43 2 4 Λ K fuel (c0 l i g r W n (IntKind.i64.wrap (j + 1))) else none else none else none else K (.exit 4) (c0 l i g r W n j) := by kernel_rfl
theorem step43a (l : List Term.D) (i : Int) (g : List Block.D) (r : Int) (W : List Int) (n j : Int) (K : AE → List AV → Option AV) (fuel : Nat) : l43 0 0 Λ43 K (fuel + 1) (c0 l i g r W n j) =
    bif decide (j < n) then bif inB j W.length then bif inB (iX W j) l.length then bif len1 ((partsL (tAt l (iX W j))).length) (partsL (tAt l (iX W j))) (partsL (tAt l (iX W j))) && decide (W = W) && (partsL (tAt l (iX W j))).all (inL' l) then
      bif decide (idxFrom (k5 l) (partsL (tAt l (iX W j))) 0 < 0) then l43 0 0 Λ43 K fuel (c0 l i g r W n (IntKind.i64.wrap (j + 1))) else K .ret (c0 l i g 1 W n j) else none else none else none else K (.exit 0) (c0 l i g r W n j) := by kernel_rfl
theorem step43d (l : List Term.D) (i : Int) (g : List Block.D) (r : Int) (a : List Value.D) (W : List Int) (n j : Int) (Λ : Lam AV) (K : AE → List AV → Option AV) (fuel : Nat) : l43 3 6 Λ K (fuel + 1) (c6 l i g r a W n j) =
    bif decide (j < n) then bif inB j W.length then bif inB (iX W j) l.length then
      bif (tAt l (iX W j)).1 == 1 then bif inB (tAt l (iX W j)).2.1 g.length then bif inB (iX W j) a.length then l43 3 6 Λ K fuel (c6 l i g r (a.set (iX W j).toNat (octV (bAt g (tAt l (iX W j)).2.1))) W n (IntKind.i64.wrap (j + 1))) else none else none else
      bif (tAt l (iX W j)).1 == 5 then bif inB (tAt l (iX W j)).2.1 a.length then bif inB (tAt l (iX W j)).2.2 a.length then bif inB (iX W j) a.length then l43 3 6 Λ K fuel (c6 l i g r (a.set (iX W j).toNat (sealV (wrapB (vA a (tAt l (iX W j)).2.1).2.2.1 (vA a (tAt l (iX W j)).2.2).2.2.1))) W n (IntKind.i64.wrap (j + 1))) else none else none else none else
      bif inB (tAt l (iX W j)).2.1 a.length then bif inB (iX W j) a.length then l43 3 6 Λ K fuel (c6 l i g r (a.set (iX W j).toNat (octV (partR (vA a (tAt l (iX W j)).2.1).2.2.1 (IntKind.i64.wrap ((tAt l (iX W j)).1 - 2))).1)) W n (IntKind.i64.wrap (j + 1))) else none else none
    else none else none else K (.exit 6) (c6 l i g r a W n j) := by kernel_rfl
def ok81 (i : Int) : Bool := decide (0 ≤ IntKind.i64.wrap (i + 1)) && decide (IntKind.i64.wrap (i + 1) ≤ IntKind.i64.wrap (i + 1)) && decide ((64 : Int) * IntKind.i64.wrap (i + 1) ≤ 281474976710656)
def a0 (i : Int) : List Value.D := List.replicate (IntKind.i64.wrap (i + 1)).toNat Value.dflt
theorem r43 (l : List Term.D) (i : Int) (g : List Block.D) : run Γ43 Λ43 live43 F43 (encA [.v (.sl Term), .v I, .v (.sl Block)] (l, i, g)) [] =
    bif (withinI l i).2 != 0 then some (veR zeroV (withinI l i).2) else
    bif len1 ((withinI l i).1.length) (withinI l i).1 (withinI l i).1 && (withinI l i).1.all (okP' l) then bif decide (idxFrom (shP l) (withinI l i).1 0 < 0) then
      bif len1 ((withinI l i).1.length) (withinI l i).1 (withinI l i).1 && (withinI l i).1.all (inL' l) then bif decide (idxFrom (q81 l g).2 (withinI l i).1 0 < 0) then
        bif ok81 i then bif len1 ((withinI l i).1.length) (withinI l i).1 (withinI l i).1 && (withinI l i).1.all (okG (a0 i).length l g) then
          bif inB i (evG l g (withinI l i).1 (a0 i)).length then some (veR (vA (evG l g (withinI l i).1 (a0 i)) i) 0) else none else none else none
      else some (veR zeroV 4) else none
    else some (veR zeroV 1) else none := by kernel_rfl
end Go.AM.Seat
