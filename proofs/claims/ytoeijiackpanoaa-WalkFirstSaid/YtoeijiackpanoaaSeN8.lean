/- The seat: contracts: the way down; where a pair is; the entry that leads to a key. -/
import Derived.Test.YtoeijiackpanoaaSeN7
set_option linter.unusedVariables false
set_option maxRecDepth 100000
namespace Go.AM.Seat
open Go Go.AM Go.Proofs

/-! ### node.Path -/
abbrev live311 : List (Nat × Dir) := [(2, .keep), (8, .keep), (9, .arr I), (29, .keep), (30, .keep)]
def vs311 (b n : Int) (l : List Int) (i : Int) : List AV := [.one (.int .u64 b), .one (.int .i64 n), .arr true I l, .one (.int .i64 n), .one (.int .i64 i)]
def Γ311 : Orc := orc [(N328, s328), (N329, s329), (N330, s330)]

def bitI (b j : Int) : Int := IntKind.i64.wrap (IntKind.u64.wrap (BitVec.ofInt 64 (shrI b j) &&& BitVec.ofInt 64 1).toNat)
def setG (b : Int) (n : Nat) : Nat → Nat → List Int → List Int
  | 0, _, l => l
  | m + 1, j, l => setG b n m (j + 1) (l.set (n - 1 - j) (bitI b j))
theorem step311 (b n i : Int) (l : List Int) (Λ : Lam AV) (fuel : Nat) (K : AE → List AV → Option AV) : loopN (aexec tb Γ311 Λ ⟨46, 0, [(1, live311)]⟩ (loopK F311 0).2 1) 46 0 live311 K (fuel + 1) (vs311 b n l i) =
    bif decide (i < n) then bif decide (0 ≤ i) then bif inB (IntKind.i64.wrap (IntKind.i64.wrap (n - 1) - i)) l.length then
      loopN (aexec tb Γ311 Λ ⟨46, 0, [(1, live311)]⟩ (loopK F311 0).2 1) 46 0 live311 K fuel (vs311 b n (l.set (IntKind.i64.wrap (IntKind.i64.wrap (n - 1) - i)).toNat (bitI b i)) (IntKind.i64.wrap (i + 1)))
    else none else none else K (.exit 1) (vs311 b n l i) := by kernel_rfl
def Λ311 : Lam AV := fun cur vs K =>
  match cur, vs with
  | 1, [.one (.int .u64 b), .one (.int .i64 n), .arr true (.int .i64) l, .one (.int .i64 n'), .one (.int .i64 0)] =>
    bif decide (n' = n) && decide (n = l.length) && decide (n ≤ 64) then K (.exit 1) (vs311 b n (setG b n.toNat n.toNat 0 l) n) else none
  | _, _ => none
theorem loop311 : LoopP tb Γ311 Λ311 ⟨46, 0, [(1, live311)]⟩ (loopK F311 0) := by
  intro vs K out e
  have hcur : (loopK F311 0).1 = 1 := by kernel_rfl
  rw [hcur] at e ⊢
  unfold Λ311 at e
  split at e
  · rename_i b n l0 n' _
    cases hc : (decide (n' = n) && decide (n = l0.length) && decide (n ≤ 64)) with
    | false => rw [hc] at e; cases e
    | true =>
      rw [hc] at e
      simp only [cond_true] at e
      simp only [Bool.and_eq_true, decide_eq_true_eq] at hc
      obtain ⟨⟨rfl, hn⟩, h64⟩ := hc
      obtain ⟨N, rfl⟩ := Int.eq_ofNat_of_zero_le (show 0 ≤ n' by omega)
      refine upLoopI (α := List Int) (n := N) (F := fun fuel l i => loopN (aexec tb Γ311 Λ311 ⟨46, 0, [(1, live311)]⟩ (loopK F311 0).2 1) 46 0 live311 K fuel (vs311 b N l i))
        (G := fun j l => K (.exit 1) (vs311 b N (setG b N (N - j) j l) N)) (Inv := fun j l => l.length = N) (fun fuel l => ?_) (fun l j hj hi => ?_) N 0 l0 out (by omega) (by omega) e
      · simp only [step311, nlt_dec, cond_false, Nat.sub_self, setG]
      · left
        refine ⟨l.set (N - 1 - j) (bitI b j), by simpa using hi, fun fuel => ?_, ?_⟩
        · have e1 : IntKind.i64.wrap (IntKind.i64.wrap ((N : Int) - 1) - (j : Int)) = ((N - 1 - j : Nat) : Int) := by
            rw [wrap64 (n := (N : Int) - 1) (by omega) (by omega), wrap64 (by omega) (by omega)]; omega
          simp only [step311, lt_dec hj, cond_true, e1, inB_lt (show N - 1 - j < l.length by omega), Int.toNat_natCast]
          rw [decide_eq_true (show (0 : Int) ≤ (j : Int) by omega), wrap64 (n := (j : Int) + 1) (by omega) (by omega)]; rfl
        · have : N - j = (N - (j + 1)) + 1 := by omega
          rw [this, setG]
  · cases e
def pathN (a b : Int) : Int := depI b - depI a
def pathI (h a b : Int) : List Int × Int := bif bothI h a b != 0 then ([], 1) else bif !aboveB a b then ([], 4) else (setG b (pathN a b).toNat (pathN a b).toNat 0 (List.replicate (pathN a b).toNat 0), 0)
def rli (l : List Int) (e : Int) : AV := .tup [(false, [.sl true I none l]), (false, [.int .i64 e])]
def pathR (b n : Int) : Option AV := bif decide (0 ≤ n) && decide (n ≤ n) && decide ((8 : Int) * n ≤ 281474976710656) then
  bif decide (n = n) && decide (n = (List.replicate n.toNat (0 : Int)).length) && decide (n ≤ 64) then some (rli (setG b n.toNat n.toNat 0 (List.replicate n.toNat 0)) 0) else none else none
theorem r311 (h a b : Int) : run Γ311 Λ311 [(1, live311)] F311 (encA [.v I, .v U, .v U] (h, a, b)) [.sl true I] =
    bif bothI h a b != 0 then some (rli [] 1) else bif !aboveB a b then some (rli [] 4) else pathR b (IntKind.i64.wrap (depI b - depI a)) := by kernel_rfl
theorem above_le {a b : Int} (h : aboveB a b = true) : depI a ≤ depI b := by
  unfold aboveB at h
  cases hd : decide (depI a ≤ depI b) with
  | true => exact of_decide_eq_true hd
  | false => rw [hd] at h; cases h
theorem pathR_ok {b n : Int} (h1 : 0 ≤ n) (h2 : n ≤ 64) : pathR b n = some (rli (setG b n.toNat n.toNat 0 (List.replicate n.toNat 0)) 0) := by
  unfold pathR
  rw [decide_eq_true h1, decide_eq_true (Int.le_refl n), decide_eq_true (show (8 : Int) * n ≤ 281474976710656 by omega), decide_eq_true (show n = n from rfl), decide_eq_true h2,
    decide_eq_true (show n = (List.replicate n.toNat (0 : Int)).length by rw [List.length_replicate]; omega)]
  rfl
theorem pathN_bd {a b : Int} (ha : IntKind.u64.has a) (hb : IntKind.u64.has b) (h : aboveB a b = true) : 0 ≤ pathN a b ∧ pathN a b ≤ 64 ∧ IntKind.i64.wrap (depI b - depI a) = pathN a b := by
  have h1 := depI_bd ha
  have h2 := depI_bd hb
  have h3 := above_le h
  unfold pathN
  exact ⟨by omega, by omega, wrap64 (by omega) (by omega)⟩
def s311 : Sp := .fn [.v I, .v U, .v U] fun x => (true, rli (pathI x.1 x.2.1 x.2.2).1 (pathI x.1 x.2.1 x.2.2).2)
theorem g311 : GoodS Try.prog N311 s311 := by
  refine good (.cons g328 (.cons g329 (.cons g330 (.nil _)))) H311 rfl (by kernel_rfl) Λ311 [(1, live311)] (oneLoop (p0 := loopK F311 0) (by kernel_rfl) loop311) [.v I, .v U, .v U] (by decide) [.sl true I] _ fun x r hw e => ?_
  obtain ⟨h, a, b⟩ := x
  cases e
  refine (r311 h a b).trans ?_
  show _ = some (rli (pathI h a b).1 (pathI h a b).2)
  unfold pathI
  cases bothI h a b != 0 with
  | true => rfl
  | false =>
    cases ha : aboveB a b with
    | false => rfl
    | true =>
      obtain ⟨p1, p2, p3⟩ := pathN_bd hw.2.1 hw.2.2 ha
      rw [p3, pathR_ok p1 p2]; rfl

/-! ### slices.Index -/
abbrev live325 : List (Nat × Dir) := [(0, .keep), (3, .keep), (4, .keep), (7, .keep), (8, .keep)]
def vs325 (l : List Subset.D) (s : Subset.D) (r n i : Int) : List AV := [.one (.sl false Subset none l), .own [.int .u64 s.1, .int .u64 s.2], .one (.int .i64 r), .one (.int .i64 n), .one (.int .i64 i)]
def idxS (s : Subset.D) : List Subset.D → Int → Int
  | [], _ => -1
  | x :: xs, i => bif s.1 == x.1 && s.2 == x.2 then i else idxS s xs (i + 1)
def sAt (l : List Subset.D) (i : Int) : Subset.D := l.getD i.toNat (0, 0)
theorem step325 (l : List Subset.D) (s : Subset.D) (r n i : Int) (Λ : Lam AV) (fuel : Nat) (K : AE → List AV → Option AV) : loopN (aexec tb (orc []) Λ ⟨19, 0, [(0, live325)]⟩ (loopK F325 0).2 0) 19 0 live325 K (fuel + 1) (vs325 l s r n i) =
    bif decide (i < n) then bif inB i l.length then
      bif s.1 == (sAt l i).1 && s.2 == (sAt l i).2 then K .ret (vs325 l s i n i)
      else loopN (aexec tb (orc []) Λ ⟨19, 0, [(0, live325)]⟩ (loopK F325 0).2 0) 19 0 live325 K fuel (vs325 l s r n (IntKind.i64.wrap (i + 1)))
    else none else K (.exit 0) (vs325 l s r n i) := by kernel_rfl
def Λ325 : Lam AV := fun cur vs K =>
  match cur, vs with
  | 0, [.one (.sl false (.pair (.int .u64) (.int .u64)) none l), .own [.int .u64 a, .int .u64 b], .one (.int .i64 r), .one (.int .i64 n), .one (.int .i64 0)] =>
    bif decide (n = l.length) && decide (n ≤ 9223372036854775807) then
      bif decide (idxS (a, b) l 0 < 0) then K (.exit 0) (vs325 l (a, b) r n n) else K .ret (vs325 l (a, b) (idxS (a, b) l 0) n (idxS (a, b) l 0))
    else none
  | _, _ => none
theorem sAt_drop {l : List Subset.D} {j : Nat} (h : j < l.length) : l.drop j = sAt l j :: l.drop (j + 1) := by
  rw [List.drop_eq_getElem_cons h]
  simp [sAt, h]
theorem loop325 : LoopP tb (orc []) Λ325 ⟨19, 0, [(0, live325)]⟩ (loopK F325 0) := by
  intro vs K out e
  have hcur : (loopK F325 0).1 = 0 := by kernel_rfl
  rw [hcur] at e ⊢
  unfold Λ325 at e
  split at e
  · rename_i l a b r n _
    cases hc : (decide (n = l.length) && decide (n ≤ 9223372036854775807)) with
    | false => rw [hc] at e; cases e
    | true =>
      rw [hc] at e
      simp only [cond_true] at e
      simp only [Bool.and_eq_true, decide_eq_true_eq] at hc
      obtain ⟨rfl, hmax⟩ := hc
      refine upLoop (α := Unit) (n := l.length) (F := fun fuel _ i => loopN (aexec tb (orc []) Λ325 ⟨19, 0, [(0, live325)]⟩ (loopK F325 0).2 0) 19 0 live325 K fuel (vs325 l (a, b) r l.length i))
        (G := fun j _ => bif decide (idxS (a, b) (l.drop j) j < 0) then K (.exit 0) (vs325 l (a, b) r l.length l.length) else K .ret (vs325 l (a, b) (idxS (a, b) (l.drop j) j) l.length (idxS (a, b) (l.drop j) j)))
        (fun fuel _ => ?_) (fun _ j hj => ?_) l.length 0 () out (by omega) e
      · simp only [step325, nlt_dec, cond_false, List.drop_length, idxS]; rfl
      · cases hx : (a == (sAt l j).1 && b == (sAt l j).2) with
        | true =>
          right; intro fuel
          have h0 : decide ((j : Int) < 0) = false := by simp
          simp only [step325, lt_dec hj, inB_lt hj, hx, cond_true, cond_false, sAt_drop hj, idxS, h0]
        | false =>
          left; refine ⟨(), fun fuel => ?_, ?_⟩
          · simp only [step325, lt_dec hj, inB_lt hj, hx, cond_true, cond_false]
            rw [wrap64 (by omega) (by omega)]; rfl
          · simp only [sAt_drop hj, idxS, hx, cond_false]; rfl
  · cases e
theorem r325 (l : List Subset.D) (s : Subset.D) : run (orc []) Λ325 [(0, live325)] F325 (encA [.v (.sl Subset), .v Subset] (l, s)) [] =
    bif decide ((l.length : Int) = l.length) && decide ((l.length : Int) ≤ 9223372036854775807) then
      bif decide (idxS s l 0 < 0) then some (.one (.int .i64 (-1))) else some (.one (.int .i64 (idxS s l 0)))
    else none := by kernel_rfl
theorem idxS_ge (s : Subset.D) : ∀ (xs : List Subset.D) (i : Int), idxS s xs i = -1 ∨ i ≤ idxS s xs i := by
  intro xs
  induction xs with
  | nil => intro i; exact .inl rfl
  | cons x xs ih =>
    intro i
    simp only [idxS]
    cases s.1 == x.1 && s.2 == x.2 with
    | true => exact .inr (Int.le_refl i)
    | false => rcases ih (i + 1) with h | h
               · exact .inl h
               · exact .inr (by simp only [cond_false]; omega)
theorem lenMax {α : Type} {l : List α} (hw : l.length ≤ 9223372036854775807) : (decide ((l.length : Int) = l.length) && decide ((l.length : Int) ≤ 9223372036854775807)) = true := by
  have hmax : (l.length : Int) ≤ 9223372036854775807 := by omega
  simp [hmax]
def s325 : Sp := .fn [.v (.sl Subset), .v Subset] fun x => (true, .one (.int .i64 (idxS x.2 x.1 0)))
theorem g325 : GoodS Try.prog N325 s325 := by
  refine good (.nil _) H325 rfl (by kernel_rfl) Λ325 [(0, live325)] (oneLoop (p0 := loopK F325 0) (by kernel_rfl) loop325) [.v (.sl Subset), .v Subset] (by decide) [] _ fun x r hw e => ?_
  obtain ⟨l, s⟩ := x
  cases e
  refine (r325 l s).trans ?_
  rw [lenMax hw.1.1]
  rcases idxS_ge s l 0 with h | h
  · rw [h]; rfl
  · have : decide (idxS s l 0 < 0) = false := by simpa using h
    rw [this]; rfl

/-! ### walk.beside -/
def besI (h a b : Int) : Int × Int := bif (meetI h a b).2 != 0 then (0, (meetI h a b).2) else bif (depthI h (meetI h a b).1).2 != 0 then (0, (depthI h (meetI h a b).1).2) else upI h b (IntKind.i64.wrap ((depthI h (meetI h a b).1).1 + 1))
theorem r324 (h a b : Int) : run (orc [(N361, s361), (N362, s362), (N363, s363)]) noL [] F324 (encA [.v I, .v U, .v U] (h, a, b)) [] =
    bif (meetI h a b).2 != 0 then some (re2 0 (meetI h a b).2) else bif (depthI h (meetI h a b).1).2 != 0 then some (re2 0 (depthI h (meetI h a b).1).2) else
      some (re2 (upI h b (IntKind.i64.wrap ((depthI h (meetI h a b).1).1 + 1))).1 (upI h b (IntKind.i64.wrap ((depthI h (meetI h a b).1).1 + 1))).2) := by kernel_rfl
def s324 : Sp := .fn [.v I, .v U, .v U] fun x => (true, re2 (besI x.1 x.2.1 x.2.2).1 (besI x.1 x.2.1 x.2.2).2)
theorem g324 : GoodS Try.prog N324 s324 := by
  refine good (.cons g361 (.cons g362 (.cons g363 (.nil _)))) H324 rfl (by kernel_rfl) noL [] (noLoops (by kernel_rfl)) [.v I, .v U, .v U] (by decide) [] _ fun x r hw e => ?_
  obtain ⟨h, a, b⟩ := x
  cases e
  rw [r324]; unfold besI
  cases (meetI h a b).2 != 0 with
  | true => rfl
  | false => cases (depthI h (meetI h a b).1).2 != 0 <;> rfl
--CUT
end Go.AM.Seat
