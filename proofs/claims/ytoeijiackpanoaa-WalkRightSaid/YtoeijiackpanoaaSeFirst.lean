/- The seat: contracts: the first subset in which a leaf is. -/
import Derived.Test.YtoeijiackpanoaaSeN9
set_option linter.unusedVariables false
set_option maxRecDepth 100000
namespace Go.AM.Seat
open Go Go.AM Go.Proofs

def badS (h : Int) (s : Subset.D) : Bool := subE h s != 0
def hasS (h i : Int) (s : Subset.D) : Bool := bif (hasI h s i).2 == 0 then (hasI h s i).1 else false
theorem r340 (s : Subset.D) (h : Int) : run (orc [(N341, s341)]) noL [] F340 [encV Subset s, .one (.rp false I h 0)] [] = some (.one (.bool (badS h s))) := by kernel_rfl
def s340 : Sp := .fn [.v Subset, .raw] fun x => match x.2 with
  | .one (.rp false (.int .i64) h 0) => (true, .one (.bool (badS h x.1)))
  | _ => (false, AV.junk)
theorem g340 : GoodS Try.prog N340 s340 := by
  refine good (.cons g341 (.nil _)) H340 rfl (by kernel_rfl) noL [] (noLoops (by kernel_rfl)) [.v Subset, .raw] (by decide) [] _ fun x r hw h => ?_
  obtain ⟨s, c⟩ := x
  simp only at h
  split at h
  · rename_i i
    cases h
    exact r340 s i
  · cases h
theorem r343 (s : Subset.D) (h i : Int) : run (orc [(N312, s312)]) noL [] F343 [encV Subset s, .one (.rp false I h 0), .one (.rp false U i 0)] [] = some (.one (.bool (hasS h i s))) := by kernel_rfl
def s343 : Sp := .fn [.v Subset, .raw, .raw] fun x => match x.2.1, x.2.2 with
  | .one (.rp false (.int .i64) h 0), .one (.rp false (.int .u64) i 0) => (true, .one (.bool (hasS h i x.1)))
  | _, _ => (false, AV.junk)
theorem g343 : GoodS Try.prog N343 s343 := by
  refine good (.cons g312 (.nil _)) H343 rfl (by kernel_rfl) noL [] (noLoops (by kernel_rfl)) [.v Subset, .raw, .raw] (by decide) [] _ fun x r hw h => ?_
  obtain ⟨s, c, d⟩ := x
  simp only at h
  split at h
  · rename_i h' i
    cases h
    exact r343 s h' i
  · cases h

/-! ### slices.IndexFunc, ContainsFunc, with those closures -/
def idxP (f : Subset.D → Bool) : List Subset.D → Int → Int
  | [], _ => -1
  | x :: xs, i => bif f x then i else idxP f xs (i + 1)
theorem idxP_ge (p : Subset.D → Bool) : ∀ (xs : List Subset.D) (i : Int), idxP p xs i = -1 ∨ i ≤ idxP p xs i := by
  intro xs
  induction xs with
  | nil => intro i; exact .inl rfl
  | cons x xs ih =>
    intro i
    simp only [idxP]
    cases p x with
    | true => exact .inr (Int.le_refl i)
    | false => rcases ih (i + 1) with h | h
               · exact .inl h
               · exact .inr (by simp only [cond_false]; omega)
def clA (h : Int) : AV := .one (.fn N340 [.ptrD false I h])
def clB (h i : Int) : AV := .one (.fn N343 [.ptrD false I h, .ptrD false U i])
def clS (c : AV) : Option (Subset.D → Bool) :=
  match c with
  | .one (.fn f [.ptrD false (.int .i64) h]) => bif Nat.beq f N340 then some (badS h) else none
  | .one (.fn f [.ptrD false (.int .i64) h, .ptrD false (.int .u64) i]) => bif Nat.beq f N343 then some (hasS h i) else none
  | _ => none
theorem clS_some {c : AV} {p : Subset.D → Bool} (h : clS c = some p) : (∃ k, c = clA k ∧ p = badS k) ∨ ∃ k i, c = clB k i ∧ p = hasS k i := by
  unfold clS at h
  split at h
  · rename_i f k
    cases hf : Nat.beq f N340 with
    | false => rw [hf] at h; cases h
    | true =>
      rw [hf] at h
      cases h
      obtain rfl := Nat.eq_of_beq_eq_true hf
      exact .inl ⟨k, rfl, rfl⟩
  · rename_i f k i
    cases hf : Nat.beq f N343 with
    | false => rw [hf] at h; cases h
    | true =>
      rw [hf] at h
      cases h
      obtain rfl := Nat.eq_of_beq_eq_true hf
      exact .inr ⟨k, i, rfl, rfl⟩
  · cases h
abbrev live342 : List (Nat × Dir) := [(0, .keep), (1, .keep), (4, .keep), (7, .keep), (8, .keep)]
def vs342 (l : List Subset.D) (c : AV) (r n i : Int) : List AV := [.one (.sl false Subset none l), c, .one (.int .i64 r), .one (.int .i64 n), .one (.int .i64 i)]
def Γ342 : Orc := orc [(N340, s340), (N343, s343)]
def Λ342 : Lam AV := fun cur vs K =>
  match cur, vs with
  | 0, [.one (.sl false (.pair (.int .u64) (.int .u64)) none l), c, .one (.int .i64 r), .one (.int .i64 n), .one (.int .i64 0)] =>
    match clS c with
    | some p =>
      bif decide (n = l.length) && decide (n ≤ 9223372036854775807) then
        bif decide (idxP p l 0 < 0) then K (.exit 0) (vs342 l c r n n) else K .ret (vs342 l c (idxP p l 0) n (idxP p l 0))
      else none
    | none => none
  | _, _ => none
noncomputable abbrev lp342 (Λ : Lam AV) (K : AE → List AV → Option AV) (fuel : Nat) (vs : List AV) : Option AV := loopN (aexec tb Γ342 Λ ⟨19, 0, [(0, live342)]⟩ (loopK F342 0).2 0) 19 0 live342 K fuel vs
theorem step342a (l : List Subset.D) (h : Int) (r n i : Int) (Λ : Lam AV) (fuel : Nat) (K : AE → List AV → Option AV) : lp342 Λ K (fuel + 1) (vs342 l (clA h) r n i) =
    bif decide (i < n) then bif inB i l.length then bif badS h (sAt l i) then K .ret (vs342 l (clA h) i n i) else lp342 Λ K fuel (vs342 l (clA h) r n (IntKind.i64.wrap (i + 1))) else none else K (.exit 0) (vs342 l (clA h) r n i) := by kernel_rfl
theorem step342b (l : List Subset.D) (h x : Int) (r n i : Int) (Λ : Lam AV) (fuel : Nat) (K : AE → List AV → Option AV) : lp342 Λ K (fuel + 1) (vs342 l (clB h x) r n i) =
    bif decide (i < n) then bif inB i l.length then bif hasS h x (sAt l i) then K .ret (vs342 l (clB h x) i n i) else lp342 Λ K fuel (vs342 l (clB h x) r n (IntKind.i64.wrap (i + 1))) else none else K (.exit 0) (vs342 l (clB h x) r n i) := by kernel_rfl
theorem step342 {l : List Subset.D} {c : AV} {p : Subset.D → Bool} (hc : clS c = some p) (r n i : Int) (Λ : Lam AV) (fuel : Nat) (K : AE → List AV → Option AV) : lp342 Λ K (fuel + 1) (vs342 l c r n i) =
    bif decide (i < n) then bif inB i l.length then bif p (sAt l i) then K .ret (vs342 l c i n i) else lp342 Λ K fuel (vs342 l c r n (IntKind.i64.wrap (i + 1))) else none else K (.exit 0) (vs342 l c r n i) := by
  rcases clS_some hc with ⟨k, rfl, rfl⟩ | ⟨k, x, rfl, rfl⟩
  · exact step342a l k r n i Λ fuel K
  · exact step342b l k x r n i Λ fuel K
theorem loop342 : LoopP tb Γ342 Λ342 ⟨19, 0, [(0, live342)]⟩ (loopK F342 0) := by
  intro vs K out e
  have hcur : (loopK F342 0).1 = 0 := by kernel_rfl
  rw [hcur] at e ⊢
  unfold Λ342 at e
  split at e
  · rename_i l c r n _
    split at e
    · rename_i p hp
      cases hc : (decide (n = l.length) && decide (n ≤ 9223372036854775807)) with
      | false => rw [hc] at e; cases e
      | true =>
        rw [hc] at e
        simp only [cond_true] at e
        simp only [Bool.and_eq_true, decide_eq_true_eq] at hc
        obtain ⟨rfl, hmax⟩ := hc
        refine upLoop (α := Unit) (n := l.length) (F := fun fuel _ i => lp342 Λ342 K fuel (vs342 l c r l.length i))
          (G := fun j _ => bif decide (idxP p (l.drop j) j < 0) then K (.exit 0) (vs342 l c r l.length l.length) else K .ret (vs342 l c (idxP p (l.drop j) j) l.length (idxP p (l.drop j) j)))
          (fun fuel _ => ?_) (fun _ j hj => ?_) l.length 0 () out (by omega) e
        · simp only [step342 hp, nlt_dec, cond_false, List.drop_length, idxP]; rfl
        · cases hx : p (sAt l j) with
          | true =>
            right; intro fuel
            have h0 : decide ((j : Int) < 0) = false := by simp
            simp only [step342 hp, lt_dec hj, inB_lt hj, hx, cond_true, cond_false, sAt_drop hj, idxP, h0]
          | false =>
            left; refine ⟨(), fun fuel => ?_, ?_⟩
            · simp only [step342 hp, lt_dec hj, inB_lt hj, hx, cond_true, cond_false]
              rw [wrap64 (by omega) (by omega)]; rfl
            · simp only [sAt_drop hj, idxP, hx, cond_false]; rfl
    · cases e
  · cases e
def idxR (p : Subset.D → Bool) (l : List Subset.D) : Option AV :=
  bif decide ((l.length : Int) = l.length) && decide ((l.length : Int) ≤ 9223372036854775807) then bif decide (idxP p l 0 < 0) then some (.one (.int .i64 (-1))) else some (.one (.int .i64 (idxP p l 0))) else none
theorem r342a (l : List Subset.D) (h : Int) : run Γ342 Λ342 [(0, live342)] F342 [.one (.sl false Subset none l), clA h] [] = idxR (badS h) l := by kernel_rfl
theorem r342b (l : List Subset.D) (h i : Int) : run Γ342 Λ342 [(0, live342)] F342 [.one (.sl false Subset none l), clB h i] [] = idxR (hasS h i) l := by kernel_rfl
def s342 : Sp := .fn [.v (.sl Subset), .raw] fun x => match clS x.2 with
  | some p => (true, .one (.int .i64 (idxP p x.1 0)))
  | none => (false, AV.junk)
theorem g342 : GoodS Try.prog N342 s342 := by
  refine good (.cons g340 (.cons g343 (.nil _))) H342 rfl (by kernel_rfl) Λ342 [(0, live342)] (oneLoop (p0 := loopK F342 0) (by kernel_rfl) loop342) [.v (.sl Subset), .raw] (by decide) [] _ fun x r hw h => ?_
  obtain ⟨l, c⟩ := x
  simp only at h
  split at h
  · rename_i p hp
    have fin : idxR p l = some (.one (.int .i64 (idxP p l 0))) := by
      unfold idxR
      rw [lenMax hw.1.1]
      rcases idxP_ge p l 0 with h | h
      · rw [h]; rfl
      · have : decide (idxP p l 0 < 0) = false := by simpa using h
        rw [this]; rfl
    cases h
    rcases clS_some hp with ⟨k, rfl, rfl⟩ | ⟨k, i, rfl, rfl⟩
    · exact (r342a l k).trans fin
    · exact (r342b l k i).trans fin
  · cases h
theorem r339 (l : List Subset.D) (h : Int) : run (orc [(N342, s342)]) noL [] F339 [.one (.sl false Subset none l), clA h] [] = some (.one (.bool (decide (idxP (badS h) l 0 ≥ 0)))) := by kernel_rfl
def s339 : Sp := .fn [.v (.sl Subset), .raw] fun x => match x.2 with
  | .one (.fn f [.ptrD false (.int .i64) h]) => (Nat.beq f N340, .one (.bool (decide (idxP (badS h) x.1 0 ≥ 0))))
  | _ => (false, AV.junk)
theorem g339 : GoodS Try.prog N339 s339 := by
  refine good (.cons g342 (.nil _)) H339 rfl (by kernel_rfl) noL [] (noLoops (by kernel_rfl)) [.v (.sl Subset), .raw] (by decide) [] _ fun x r hw h => ?_
  obtain ⟨l, c⟩ := x
  simp only at h
  split at h
  · rename_i f k
    cases hf : Nat.beq f N340 with
    | false => rw [hf] at h; cases h
    | true =>
      rw [hf] at h
      cases h
      obtain rfl := Nat.eq_of_beq_eq_true hf
      exact r339 l k
  · cases h

/-! ### walk.First -/
def firstI (h i : Int) (l : List Subset.D) : Int × Int := bif (leafI h i).2 != 0 then (0, 1) else bif decide (idxP (badS h) l 0 ≥ 0) then (0, 1) else bif decide (idxP (hasS h i) l 0 < 0) then (0, 4) else (idxP (hasS h i) l 0, 0)
def Γ315 : Orc := orc [(N323, s323), (N339, s339), (N342, s342)]
theorem r315 (h i : Int) (l : List Subset.D) : run Γ315 noL [] F315 (encA [.v I, .v U, .v (.sl Subset)] (h, i, l)) [] =
    bif (leafI h i).2 != 0 then some (ri2 0 1) else bif decide (idxP (badS h) l 0 ≥ 0) then some (ri2 0 1) else bif decide (idxP (hasS h i) l 0 < 0) then some (ri2 0 4) else some (ri2 (idxP (hasS h i) l 0) 0) := by kernel_rfl
def s315 : Sp := .fn [.v I, .v U, .v (.sl Subset)] fun x => (true, ri2 (firstI x.1 x.2.1 x.2.2).1 (firstI x.1 x.2.1 x.2.2).2)
theorem g315 : GoodS Try.prog N315 s315 := by
  refine good (.cons g323 (.cons g339 (.cons g342 (.nil _)))) H315 rfl (by kernel_rfl) noL [] (noLoops (by kernel_rfl)) [.v I, .v U, .v (.sl Subset)] (by decide) [] _ fun x r hw e => ?_
  obtain ⟨h, i, l⟩ := x
  cases e
  refine (r315 h i l).trans ?_
  show _ = some (ri2 (firstI h i l).1 (firstI h i l).2)
  unfold firstI
  cases (leafI h i).2 != 0 with
  | true => rfl
  | false =>
    simp only [cond_false]
    cases decide (idxP (badS h) l 0 ≥ 0) with
    | true => rfl
    | false =>
      simp only [cond_false]
      cases decide (idxP (hasS h i) l 0 < 0) <;> rfl

/-! ### the law WalkFirst -/
abbrev live305 : List (Nat × Dir) := [(0, .keep), (1, .keep), (8, .keep), (9, .keep), (10, .keep), (85, .keep), (86, .keep), (87, .keep)]
def vs305 (h i : Int) (r : Bool) (up : Bool) (k : Int) (f : Bool) (nl : Option Bool) (l : List Subset.D) (n j : Int) : List AV := [.one (.int .i64 h), .one (.int .u64 i), .one (.bool r), .one (.bool up), .one (.int .i64 k), .one (.sl f Subset nl l), .one (.int .i64 n), .one (.int .i64 j)]
def Γ305 : Orc := orc [(N308, s308), (N315, s315), (N312, s312)]
def badF (h i k : Int) (l : List Subset.D) (j : Int) : Bool := bif (hasI h (sAt l j) i).2 != 0 then true else (hasI h (sAt l j) i).1 != (j == k)
noncomputable abbrev lp305 (Λ : Lam AV) (K : AE → List AV → Option AV) (fuel : Nat) (vs : List AV) : Option AV := loopN (aexec tb Γ305 Λ ⟨110, 0, [(0, live305)]⟩ (loopK F305 0).2 0) 110 0 live305 K fuel vs
theorem step305 (h i : Int) (r up : Bool) (k : Int) (f : Bool) (nl : Option Bool) (l : List Subset.D) (n j : Int) (Λ : Lam AV) (fuel : Nat) (K : AE → List AV → Option AV) : lp305 Λ K (fuel + 1) (vs305 h i r up k f nl l n j) =
    bif decide (j < n) then bif inB j l.length then bif badF h i k l j then K .ret (vs305 h i false up k f nl l n j) else lp305 Λ K fuel (vs305 h i r up k f nl l n (IntKind.i64.wrap (j + 1))) else none else K (.exit 0) (vs305 h i r up k f nl l n j) := by kernel_rfl
/-- A loop that stops at the first bad one. -/
def allK (R : Nat → Option AV) (E : Option AV) (bad : Nat → Bool) : Nat → Nat → Option AV
  | 0, _ => E
  | m + 1, j => bif bad j then R j else allK R E bad m (j + 1)
theorem allK_ok {R : Nat → Option AV} {E : Option AV} {bad : Nat → Bool} : ∀ {m j : Nat}, (∀ i, j ≤ i → i < j + m → bad i = false) → allK R E bad m j = E := by
  intro m
  induction m with
  | zero => intro j _; rfl
  | succ m ih =>
    intro j h
    rw [allK, h j (Nat.le_refl j) (by omega)]
    exact ih fun i h1 h2 => h i (by omega) (by omega)
def Λ305 : Lam AV := fun cur vs K =>
  match cur, vs with
  | 0, [.one (.int .i64 h), .one (.int .u64 i), .one (.bool r), .one (.bool up), .one (.int .i64 k), .one (.sl f (.pair (.int .u64) (.int .u64)) nl l), .one (.int .i64 n), .one (.int .i64 0)] =>
    bif decide (n = l.length) && decide (n ≤ 9223372036854775807) then allK (fun j => K .ret (vs305 h i false up k f nl l n j)) (K (.exit 0) (vs305 h i r up k f nl l n n)) (fun j => badF h i k l j) n.toNat 0 else none
  | _, _ => none
theorem loop305 : LoopP tb Γ305 Λ305 ⟨110, 0, [(0, live305)]⟩ (loopK F305 0) := by
  intro vs K out e
  have hcur : (loopK F305 0).1 = 0 := by kernel_rfl
  rw [hcur] at e ⊢
  unfold Λ305 at e
  split at e
  · rename_i h i r up k f nl l n _
    cases hc : (decide (n = l.length) && decide (n ≤ 9223372036854775807)) with
    | false => rw [hc] at e; cases e
    | true =>
      rw [hc] at e
      simp only [cond_true] at e
      simp only [Bool.and_eq_true, decide_eq_true_eq] at hc
      obtain ⟨rfl, hmax⟩ := hc
      refine upLoop (α := Unit) (n := l.length) (F := fun fuel _ j => lp305 Λ305 K fuel (vs305 h i r up k f nl l l.length j))
        (G := fun j _ => allK (fun j => K .ret (vs305 h i false up k f nl l l.length j)) (K (.exit 0) (vs305 h i r up k f nl l l.length l.length)) (fun j => badF h i k l j) (l.length - j) j)
        (fun fuel _ => ?_) (fun _ j hj => ?_) l.length 0 () out (by omega) e
      · simp only [step305, nlt_dec, cond_false, Nat.sub_self, allK]
      · have hm : l.length - j = (l.length - (j + 1)) + 1 := by omega
        cases hx : badF h i k l j with
        | true => right; intro fuel; simp only [step305, lt_dec hj, inB_lt hj, hx, cond_true, hm, allK]
        | false =>
          left; refine ⟨(), fun fuel => ?_, ?_⟩
          · simp only [step305, lt_dec hj, inB_lt hj, hx, cond_true, cond_false]
            rw [wrap64 (by omega) (by omega)]; rfl
          · simp only [hm, allK, hx, cond_false]
  · cases e
def oB' (b : Bool) : Option AV := some (.one (.bool b))
def lastF (h i k : Int) (l : List Subset.D) : Option AV :=
  bif decide (0 ≤ IntKind.i64.wrap (k + 1)) && decide (IntKind.i64.wrap (k + 1) ≤ (l.length : Int)) then
    bif decide (((l.take (IntKind.i64.wrap (k + 1)).toNat).length : Int) = (l.take (IntKind.i64.wrap (k + 1)).toNat).length) && decide (((l.take (IntKind.i64.wrap (k + 1)).toNat).length : Int) ≤ 9223372036854775807) then
      allK (fun _ => oB' false) (oB' true) (fun j => badF h i k (l.take (IntKind.i64.wrap (k + 1)).toNat) j) (((l.take (IntKind.i64.wrap (k + 1)).toNat).length : Int)).toNat 0
    else none
  else none
def lawF (h i : Int) (l : List Subset.D) (x y : Int × Int) : Option AV :=
  bif x.2 == 1 then oB' (y.2 == x.2) else bif y.2 == 1 then oB' true else bif x.2 != 0 then oB' (bif y.2 != 0 then true else decide (y.1 ≥ (l.length : Int))) else
  bif (bif bif y.2 != 0 then true else y.1 != x.1 then true else decide (x.1 ≥ (l.length : Int))) then oB' false else lastF h i x.1 l
theorem r305 (h i : Int) (l more : List Subset.D) : run Γ305 Λ305 [(0, live305)] F305 (encA [.v I, .v U, .v (.sl Subset), .v (.sl Subset)] (h, i, l, more)) [] =
    bif (bif decide ((l.length : Int) > 60) then true else decide ((more.length : Int) > 60)) then oB' true else
    bif decide (l.length * 16 ≤ 140737488355328) then bif decide ((l.length + more.length) * 16 ≤ 140737488355328) then lawF h i l (firstI h i l) (firstI h i (l ++ more)) else none else none := by kernel_rfl
theorem Γ305ok : OrcOk Try.prog Γ305 := .cons g308 (.cons g315 (.cons g312 (.nil _)))
end Go.AM.Seat
