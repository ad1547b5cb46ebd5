/- The seat: contracts: labels: the walker. -/
import Derived.Test.YtoeijiackpanoaaSeG
import Derived.Test.YtoeijiackpanoaaSe6
import Derived.Test.YtoeijiackpanoaaSeN9
set_option linter.unusedVariables false
set_option maxRecDepth 100000
set_option linter.unusedSimpArgs false
namespace Go.AM.Seat
open Go Go.AM Go.Proofs

theorem same_self2 (x : AV × List AV) : Same.eq x x = true := @decide_eq_true _ (Classical.propDecidable _) rfl
theorem sameO_rep2 (x : AV × List AV) : ∀ (n : Nat), sameO x (List.replicate n (some x)) = true
  | 0 => rfl
  | n + 1 => by
    show (Same.eq x x && sameO x (List.replicate n (some x))) = true
    rw [same_self2, sameO_rep2 x n]; rfl
theorem allSame_rep2 (x : AV × List AV) (n : Nat) : allSame (List.replicate (n + 1) (some x)) = some x := by
  show (bif sameO x (List.replicate n (some x)) then some x else none) = some x
  rw [sameO_rep2]; rfl

/-- A walker: its value, its terms, its error. -/
abbrev WS := Value.D × List Term.D × Int
def wk (x : WS) : AV := .own (.sl false Term none x.2.1 :: (enc Value true x.1 ++ [.int .i64 x.2.2]))
/-- One that is all new. -/
def wkT (x : WS) : AV := .own (.sl true Term none x.2.1 :: (enc Value true x.1 ++ [.int .i64 x.2.2]))
def unit2 (x : WS) : Option (AV × List AV) := some (.tup [], [wk x])
def stepW (x : WS) (i : Int) : WS := bif x.2.2 == 0 then partV x.2.1 x.1 i else x
/-- value.Part, whose row nobody writes. -/
def vlf (x : WS) : AV := .tup [(true, enc Value true x.1), (false, [.sl false Term none x.2.1]), (false, [.int .i64 x.2.2])]
abbrev wVlf : List WK := [.id, .sl false Term, .id]
theorem r22f (l : List Term.D) (v : Value.D) (i : Int) : run Γ22 noL [] F22 (encA P3 (l, v, i)) wVlf =
    bif partBad l v i then some (vlf (zeroV, [], 1)) else
    bif v.1 then some (vlf (madeV l (IntKind.i64.wrap (2 + i), v.2.2.2.2, 0))) else bif small24 l.length then some (vlf (octV (partR v.2.2.1 i).1, l, (partR v.2.2.1 i).2)) else none := by kernel_rfl
def s22f : Sp := .fn P3 fun x => (true, vlf (partV x.1 x.2.1 x.2.2))
theorem g22f : GoodS Try.prog N22 s22f := by
  refine good (.cons g44 (.cons g45 (.cons g47 (.cons g53 (.nil _))))) H22 rfl (by kernel_rfl) noL [] (noLoops (by kernel_rfl)) P3 (by decide) wVlf _ fun x r hw h => ?_
  obtain ⟨l, v, i⟩ := x
  cases h
  refine (r22f l v i).trans ?_
  simp only [partV]
  cases h0 : partBad l v i with
  | true => rfl
  | false =>
    cases v.1 with
    | true => rfl
    | false =>
      unfold partBad at h0
      cases h1 : isV l [false] [v] != 0 with
      | true => rw [h1] at h0; cases h0
      | false =>
        have hz : isV l [false] [v] = 0 := by simpa using h1
        rw [small_of (checkL_small (checkV_zero.1 (isV_one.1 hz).1).1)]; rfl
theorem r353 (l : List Term.D) (v : Value.D) (e i : Int) : runIO (orc [(N22, s22f)]) noL2 1 [] F353 [.one (.ptr 32 0), .one (.int .i64 i)] [wk (v, l, e)] 1 [] =
    bif e == 0 then allSame (List.replicate 2 (unit2 (partV l v i))) else unit2 (v, l, e) := by kernel_rfl
theorem r354 (l : List Term.D) (v : Value.D) (e : Int) : runIO (orc []) noL2 1 [] F354 [.one (.ptr 23 0)] [wk (v, l, e)] 1 [.id, .sl false Term, .id] =
    bif e != 0 then allSame (List.replicate 20 (some (vlf (zeroV, [], e), [wk (v, l, e)]))) else allSame (List.replicate 35 (some (vlf (v, l, 0), [wk (v, l, e)]))) := by kernel_rfl
def g51 (l : List Term.D) (v : Value.D) : Bool := inB v.2.2.2.2 l.length || !((boolBeq (checkV l v == 0) true && boolBeq v.2.1 false) && boolBeq v.1 true)
def b51 (l : List Term.D) (v : Value.D) : Bool := bif checkV l v == 0 then bif v.2.1 then true else bif v.1 then (tAt l v.2.2.2.2).1 == 5 else false else false
/-- Clone, whose row nobody writes; it is new. -/
theorem r47nf (xs : List Term.D) : run (orc []) noL [] F47 [.one (.sl false Term (some true) xs)] [.sl true Term] = some (.one (.sl true Term none [])) := by kernel_rfl
theorem r47f (xs : List Term.D) : run (orc []) noL [] F47 [.one (.sl false Term (some false) xs)] [.sl true Term] =
    bif decide ((([] : List Term.D).length + xs.length) * 24 ≤ 140737488355328) then some (.one (.sl true Term none ([] ++ xs))) else none := by kernel_rfl
def s47f : Sp := .fn [.v (.sl Term)] fun xs => (small24 xs.length, .one (.sl true Term none xs))
theorem g47f : GoodS Try.prog N47 s47f := by
  refine .fn (callable_of H47 (bd rfl) (by kernel_rfl)) fun xs r hw h => ?_
  have hs : small24 xs.length = true := congrArg Prod.fst h
  obtain rfl : AV.one (.sl true Term none xs) = r := congrArg Prod.snd h
  refine good_nl (fun hx => ?_) ?_
  · subst hx
    exact ks47 [.sl true Term] _ (by show 1 ≤ _; decide) (r47nf [])
  · refine ks47 [.sl true Term] _ (by show 1 ≤ _; decide) ?_
    rw [r47f]
    have : decide ((([] : List Term.D).length + xs.length) * 24 ≤ 140737488355328) = true := by
      have := of_decide_eq_true hs
      exact decide_eq_true (by simpa using this)
    rw [this]; rfl
theorem r351 (l : List Term.D) (v : Value.D) : runIO (orc [(N19, s19), (N47, s47f)]) noL2 0 [] F351 (encA [.v (.sl Term), .v Value] (l, v)) [] 0 [] =
    bif g51 l v then bif b51 l v then bif small24 l.length then some (.one (.ptr 0 0), [wkT (v, l, 1)]) else none else bif small24 l.length then some (.one (.ptr 0 0), [wkT (v, l, checkV l v)]) else none else none := by kernel_rfl
/-! ### the walker's contracts -/
def unW : AV → Option WS
  | .own [.sl false (.pair (.int .i64) (.pair (.int .i64) (.int .i64))) none l, .bool a, .bool b, .int .u64 c, .int .u64 d, .int .u64 e, .int .u64 f, .int .u64 g, .int .u64 h, .int .i64 t, .int .i64 er] => some ((a, b, (c, d), ((e, f), (g, h)), t), l, er)
  | _ => none
theorem unW_eq {a : AV} {x : WS} (h : unW a = some x) : a = wk x := by
  unfold unW at h
  split at h
  · cases h; rfl
  · cases h
def unWT : AV → Option WS
  | .own [.sl true (.pair (.int .i64) (.pair (.int .i64) (.int .i64))) none l, .bool a, .bool b, .int .u64 c, .int .u64 d, .int .u64 e, .int .u64 f, .int .u64 g, .int .u64 h, .int .i64 t, .int .i64 er] => some ((a, b, (c, d), ((e, f), (g, h)), t), l, er)
  | _ => none
theorem unWT_eq {a : AV} {x : WS} (h : unWT a = some x) : a = wkT x := by
  unfold unWT at h
  split at h
  · cases h; rfl
  · cases h
def unV : AV → Option Value.D
  | .agg [.bool a, .bool b, .int .u64 c, .int .u64 d, .int .u64 e, .int .u64 f, .int .u64 g, .int .u64 h, .int .i64 t] => some (a, b, (c, d), ((e, f), (g, h)), t)
  | _ => none
theorem unV_eq {a : AV} {v : Value.D} (h : unV a = some v) : a = encV Value v := by
  unfold unV at h
  split at h
  · cases h; rfl
  · cases h
def s353 : Sp := .io fun a p gs => match a, p, gs with
  | [.one (.ptr 0 0), .one (.int .i64 i)], 1, [g] => (match unW g with
    | some x => some (true, .tup [], [wk (stepW x i)])
    | none => none)
  | _, _, _ => none
theorem g353 : GoodS Try.prog N353 s353 := by
  refine GoodS.io (callable_of H353 (bd rfl) (by kernel_rfl)) fun a p gs r gs' hw1 hw2 h => ?_
  clear hw1 hw2
  split at h
  · rename_i i g
    split at h
    · rename_i x hx
      obtain rfl := unW_eq hx
      cases h
      obtain ⟨v, l, e⟩ := x
      refine goodIO1 (.cons g22f (.nil _)) H353 rfl noL2 1 [] (noLoops2 (by kernel_rfl)) [.one (.ptr 0 0), .one (.int .i64 i)] [wk (v, l, e)] 1 (ys := [.one (.ptr 32 0), .one (.int .i64 i)]) (hs := [wk (v, l, e)]) rfl rfl rfl (Nat.le_refl 1) (by show 2 ≤ _; decide) (Nat.le_refl 1) [] ((r353 l v e i).trans ?_)
      unfold stepW
      cases h0 : e == 0 with
      | true => simp only [h0]; exact allSame_rep2 _ 1
      | false => simp only [h0]; rfl
    · cases h
  · cases h
def endW (x : WS) : WS := bif x.2.2 != 0 then (zeroV, [], x.2.2) else (x.1, x.2.1, 0)
def s354 : Sp := .io fun a p gs => match a, p, gs with
  | [.one (.ptr 0 0)], 1, [g] => (match unW g with
    | some x => some (true, vlf (endW x), [wk x])
    | none => none)
  | _, _, _ => none
theorem g354 : GoodS Try.prog N354 s354 := by
  refine GoodS.io (callable_of H354 (bd rfl) (by kernel_rfl)) fun a p gs r gs' hw1 hw2 h => ?_
  clear hw1 hw2
  split at h
  · rename_i g
    split at h
    · rename_i x hx
      obtain rfl := unW_eq hx
      cases h
      obtain ⟨v, l, e⟩ := x
      refine goodIO1 (.nil _) H354 rfl noL2 1 [] (noLoops2 (by kernel_rfl)) [.one (.ptr 0 0)] [wk (v, l, e)] 1 (ys := [.one (.ptr 23 0)]) (hs := [wk (v, l, e)]) rfl rfl rfl (Nat.le_refl 1) (by show 1 ≤ _; decide) (Nat.le_refl 1) [.id, .sl false Term, .id] ((r354 l v e).trans ?_)
      unfold endW
      cases h0 : e != 0 with
      | true => simp only [h0]; exact allSame_rep2 _ 19
      | false => simp only [h0]; exact allSame_rep2 _ 34
    · cases h
  · cases h
def startE (l : List Term.D) (v : Value.D) : Int := bif b51 l v then 1 else checkV l v
def startW (l : List Term.D) (v : Value.D) : WS := (v, l, startE l v)
def s351 : Sp := .io fun a p gs => match a, p, gs with
  | [.one (.sl false (.pair (.int .i64) (.pair (.int .i64) (.int .i64))) none l), g], 0, [] => (match unV g with
    | some v => some (small24 l.length, .one (.ptr 0 0), [wkT (startW l v)])
    | none => none)
  | _, _, _ => none
theorem sym_in {l : List Term.D} {v : Value.D} (h : checkV l v = 0) (hv : v.1 = true) : inB v.2.2.2.2 l.length = true := by
  have hs : isSym l v = true := by
    have h1 := (checkV_zero.1 h).2
    cases hs : isSym l v with
    | true => rfl
    | false =>
      have : (plainV l v).1 = false := by unfold plainV; rw [hs]; cases v.2.1 <;> rfl
      rw [← h1, hv] at this; cases this
  unfold isSym at hs
  rw [hv] at hs
  simp only [cond_true] at hs
  unfold inB
  cases h2 : decide (v.2.2.2.2 ≥ 0) with
  | false => rw [h2] at hs; cases hs
  | true => rw [h2] at hs; rw [show decide (v.2.2.2.2 < (l.length : Int)) = true from hs]; rfl
theorem g51_true (l : List Term.D) (v : Value.D) : g51 l v = true := by
  unfold g51
  cases h1 : checkV l v == 0 with
  | false => cases inB v.2.2.2.2 l.length <;> rfl
  | true =>
    cases h2 : v.1 with
    | false => cases inB v.2.2.2.2 l.length <;> cases v.2.1 <;> rfl
    | true => rw [sym_in (eq_of_beq h1) h2]; rfl
theorem g351 : GoodS Try.prog N351 s351 := by
  refine GoodS.io (callable_of H351 (bd rfl) (by kernel_rfl)) fun a p gs r gs' hw1 hw2 h => ?_
  clear hw1 hw2
  split at h
  · rename_i l g
    split at h
    · rename_i v hv
      obtain rfl := unV_eq hv
      simp only [Option.some.injEq, Prod.mk.injEq] at h
      obtain ⟨hs, rfl, rfl⟩ := h
      refine goodIO0 (.cons g19 (.cons g47f (.nil _))) H351 rfl noL2 0 [] (noLoops2 (by kernel_rfl)) (encA [.v (.sl Term), .v Value] (l, v)) rfl (by show 2 ≤ _; decide) [] ((r351 l v).trans ?_)
      rw [g51_true, hs]
      unfold startW startE
      cases b51 l v <;> rfl
    · cases h
  · cases h

/-- Loops that count up, whatever they come to. -/
theorem upLoopR {ρ α : Type} {n : Nat} {F : Nat → α → Int → Option ρ} {G : Nat → α → Option ρ} (h1 : ∀ fuel a, F (fuel + 1) a n = G n a)
    (h2 : ∀ a (j : Nat), j < n → (∃ a', (∀ fuel, F (fuel + 1) a j = F fuel a' ((j + 1 : Nat) : Int)) ∧ G j a = G (j + 1) a') ∨ (∀ fuel, F (fuel + 1) a j = G j a)) :
    ∀ (m j : Nat) (a : α) (out : ρ), j + m = n → G j a = some out → ∃ fuel, F fuel a j = some out := by
  intro m
  induction m with
  | zero =>
    intro j a out hj h
    obtain rfl : j = n := by omega
    exact ⟨1, (h1 0 a).trans h⟩
  | succ m ih =>
    intro j a out hj h
    rcases h2 a j (by omega) with ⟨a', g1, g2⟩ | g
    · obtain ⟨fuel, hf⟩ := ih (j + 1) a' out (by omega) (g2 ▸ h)
      exact ⟨fuel + 1, (g1 fuel).trans hf⟩
    · exact ⟨1, (g 0).trans h⟩
def walkL : WS → List Int → WS
  | x, [] => x
  | x, s :: r => walkL (stepW x s) r
def gW (x : WS) : AV := .gho (wk x).ov
def Γ385 : Orc := orc [(N311, s311), (N353, s353)]
abbrev live385 : List (Nat × Dir) := [(0, .keep), (28, .keep), (29, .keep), (30, .keep), (38, .keep)]
def vs385 (l : List Int) (n i : Int) (x : WS) : List AV := [.one (.ptr 38 0), .one (.sl true I none l), .one (.int .i64 n), .one (.int .i64 i), gW x]
noncomputable abbrev lp385 (Λ : Lam (AV × List AV)) (K : AE → List AV → Option (AV × List AV)) (fuel : Nat) (vs : List AV) : Option (AV × List AV) := loopN (aexec tb Γ385 Λ ⟨38, 1, [(0, live385)]⟩ (loopK F385 0).2 0) 38 1 live385 K fuel vs
theorem step385 (l : List Int) (n i : Int) (x : WS) (Λ : Lam (AV × List AV)) (fuel : Nat) (K : AE → List AV → Option (AV × List AV)) : lp385 Λ K (fuel + 1) (vs385 l n i x) =
    bif decide (i < n) then bif inB i l.length then lp385 Λ K fuel (vs385 l n (IntKind.i64.wrap (i + 1)) (stepW x (iAt l i))) else none else K (.exit 0) (vs385 l n i x) := by kernel_rfl
def Λ385 : Lam (AV × List AV) := fun cur vs K =>
  match cur, vs with
  | 0, [.one (.ptr 38 0), .one (.sl true (.int .i64) none l), .one (.int .i64 n), .one (.int .i64 0), .gho o] =>
    (match unW o.av with
    | some x => bif decide (n = l.length) && decide (n ≤ 9223372036854775807) then K (.exit 0) (vs385 l n n (walkL x l)) else none
    | none => none)
  | _, _ => none
theorem walk_drop {x : WS} {l : List Int} {j : Nat} (h : j < l.length) : walkL x (l.drop j) = walkL (stepW x (iAt l j)) (l.drop (j + 1)) := by
  rw [List.drop_eq_getElem_cons h]
  simp [iAt, h, walkL]
theorem gW_eq {o : OV} {x : WS} (h : unW o.av = some x) : AV.gho o = gW x := by
  have := unW_eq h
  unfold gW
  rw [← this]
  cases o <;> first | rfl | cases h
theorem loop385 : LoopP tb Γ385 Λ385 ⟨38, 1, [(0, live385)]⟩ (loopK F385 0) := by
  intro vs K out e
  have hcur : (loopK F385 0).1 = 0 := by kernel_rfl
  rw [hcur] at e ⊢
  unfold Λ385 at e
  split at e
  · rename_i l n o _
    split at e
    · rename_i x hx
      cases hc : (decide (n = l.length) && decide (n ≤ 9223372036854775807)) with
      | false => rw [hc] at e; cases e
      | true =>
        rw [hc] at e
        simp only [cond_true] at e
        simp only [Bool.and_eq_true, decide_eq_true_eq] at hc
        obtain ⟨rfl, hmax⟩ := hc
        rw [gW_eq hx]
        refine upLoopR (α := WS) (n := l.length) (F := fun fuel x i => lp385 Λ385 K fuel (vs385 l l.length i x)) (G := fun j x => K (.exit 0) (vs385 l l.length l.length (walkL x (l.drop j))))
          (fun fuel x => ?_) (fun x j hj => ?_) l.length 0 x out (by omega) e
        · simp only [step385, nlt_dec, cond_false, List.drop_length, walkL]
        · left
          refine ⟨stepW x (iAt l j), fun fuel => ?_, by rw [walk_drop hj]⟩
          simp only [step385, lt_dec hj, inB_lt hj, cond_true]
          rw [wrap64 (by omega) (by omega)]; rfl
    · cases e
  · cases e
def pathW (x : WS) (h a b : Int) : WS := walkL (bif x.2.2 == 0 then (x.1, x.2.1, (pathI h a b).2) else x) (pathI h a b).1
def lenB (l : List Int) : Bool := decide ((l.length : Int) = l.length) && decide ((l.length : Int) ≤ 9223372036854775807)
theorem r385 (h a b : Int) (x : WS) : runIO Γ385 Λ385 1 [(0, live385)] F385 [.one (.ptr 38 0), .one (.int .i64 h), .one (.int .u64 a), .one (.int .u64 b)] [wk x] 1 [] =
    bif x.2.2 == 0 then bif lenB (pathI h a b).1 then unit2 (walkL (x.1, x.2.1, (pathI h a b).2) (pathI h a b).1) else none else bif lenB (pathI h a b).1 then unit2 (walkL x (pathI h a b).1) else none := by kernel_rfl
theorem setG_len (b : Int) (n : Nat) : ∀ (m j : Nat) (l : List Int), (setG b n m j l).length = l.length := by
  intro m
  induction m with
  | zero => intro j l; rfl
  | succ m ih => intro j l; rw [setG, ih]; simp
theorem path_len (h a b : Int) : (pathI h a b).1.length ≤ 64 := by
  unfold pathI
  cases hb : bothI h a b != 0 with
  | true => exact Nat.zero_le _
  | false =>
    cases ha : aboveB a b with
    | false => exact Nat.zero_le _
    | true =>
      show (setG b (pathN a b).toNat (pathN a b).toNat 0 (List.replicate (pathN a b).toNat 0)).length ≤ 64
      rw [setG_len, List.length_replicate]
      have hc : (chkI h b != 0) = false := by
        cases hc : chkI h b != 0 with
        | false => rfl
        | true =>
          unfold bothI both at hb
          rw [hc] at hb
          cases h1 : chkI h a != 0 <;> rw [h1] at hb <;> exact absurd hb (by decide)
      obtain ⟨c1, c2, c3⟩ := chk_zero hc
      have c4 := highB_iff.1 c1
      have c5 := lenI_nonneg a
      unfold pathN depI at *
      omega
theorem lenB_path (h a b : Int) : lenB (pathI h a b).1 = true := lenMax (Nat.le_trans (path_len h a b) (by decide))
def s385 : Sp := .io fun a p gs => match a, p, gs with
  | [.one (.ptr 0 0), .one (.int .i64 h), .one (.int .u64 a), .one (.int .u64 b)], 1, [g] => (match unW g with
    | some x => some (true, .tup [], [wk (pathW x h a b)])
    | none => none)
  | _, _, _ => none
theorem oneLoop2 {Γ : Orc} {Λ : Lam (AV × List AV)} {ms : Lay} {c : Code} {p0 : Nat × Code} (h : loopsOf 0 c = [p0]) (h0 : LoopP tb Γ Λ ms p0) : ∀ p ∈ loopsOf 0 c, LoopP tb Γ Λ ms p := by
  rw [h]; intro p hp; rw [List.mem_singleton.1 hp]; exact h0
theorem g385 : GoodS Try.prog N385 s385 := by
  refine GoodS.io (callable_of H385 (bd rfl) (by kernel_rfl)) fun a p gs r gs' hw1 hw2 h => ?_
  clear hw1 hw2
  split at h
  · rename_i h' a b g
    split at h
    · rename_i x hx
      obtain rfl := unW_eq hx
      cases h
      refine goodIO1 (.cons g311 (.cons g353 (.nil _))) H385 rfl Λ385 1 [(0, live385)] (oneLoop2 (p0 := loopK F385 0) (by kernel_rfl) loop385) [.one (.ptr 0 0), .one (.int .i64 h'), .one (.int .u64 a), .one (.int .u64 b)] [wk x] 1 (ys := [.one (.ptr 38 0), .one (.int .i64 h'), .one (.int .u64 a), .one (.int .u64 b)]) (hs := [wk x]) rfl rfl rfl (Nat.le_refl 1) (by show 4 ≤ _; decide) (Nat.le_refl 1) [] ((r385 h' a b x).trans ?_)
      rw [lenB_path]
      unfold pathW
      cases x.2.2 == 0 <;> rfl
    · cases h
  · cases h
def labelW (x : WS) (h : Int) (s : Subset.D) : WS := bif s.2 != 0 then pathW (stepW (pathW x h 1 s.1) 2) h s.1 s.2 else stepW (pathW x h 1 s.1) 2
theorem r352 (x : WS) (h : Int) (s : Subset.D) : runIO (orc [(N385, s385), (N353, s353)]) noL2 1 [] F352 [.one (.ptr 23 0), .one (.int .i64 h), .agg [.int .u64 s.1, .int .u64 s.2]] [wk x] 1 [] =
    bif s.2 != 0 then unit2 (pathW (stepW (pathW x h 1 s.1) 2) h s.1 s.2) else unit2 (stepW (pathW x h 1 s.1) 2) := by kernel_rfl
def s352 : Sp := .io fun a p gs => match a, p, gs with
  | [.one (.ptr 0 0), .one (.int .i64 h), .agg [.int .u64 i, .int .u64 j]], 1, [g] => (match unW g with
    | some x => some (true, .tup [], [wk (labelW x h (i, j))])
    | none => none)
  | _, _, _ => none
theorem g352 : GoodS Try.prog N352 s352 := by
  refine GoodS.io (callable_of H352 (bd rfl) (by kernel_rfl)) fun a p gs r gs' hw1 hw2 h => ?_
  clear hw1 hw2
  split at h
  · rename_i h' i j g
    split at h
    · rename_i x hx
      obtain rfl := unW_eq hx
      cases h
      refine goodIO1 (.cons g385 (.cons g353 (.nil _))) H352 rfl noL2 1 [] (noLoops2 (by kernel_rfl)) [.one (.ptr 0 0), .one (.int .i64 h'), .agg [.int .u64 i, .int .u64 j]] [wk x] 1 (ys := [.one (.ptr 23 0), .one (.int .i64 h'), .agg [.int .u64 i, .int .u64 j]]) (hs := [wk x]) rfl rfl rfl (Nat.le_refl 1) (by show 3 ≤ _; decide) (Nat.le_refl 1) [] ((r352 x h' (i, j)).trans ?_)
      unfold labelW
      cases (i, j).2 != 0 <;> rfl
    · cases h
  · cases h

def oddB (s : Int) : Bool := IntKind.i64.wrap (BitVec.ofInt 64 s &&& ~~~(BitVec.ofInt 64 1)).toNat != 0
theorem r377 (s : Int) : run (orc []) noL [] F377 (encA [.v I] s) [] = some (.one (.bool (oddB s))) := by kernel_rfl
def s377 : Sp := .fn [.v I] fun s => (true, .one (.bool (oddB s)))
theorem g377 : GoodS Try.prog N377 s377 := by
  refine good (.nil _) H377 rfl (by kernel_rfl) noL [] (noLoops (by kernel_rfl)) [.v I] (by decide) [] _ fun s r hw e => ?_
  cases e
  exact r377 s
def clO : AV := .one (.fn N377 [])
def isO (c : AV) : Bool :=
  match c with
  | .one (.fn f []) => Nat.beq f N377
  | _ => false
theorem isO_eq {c : AV} (h : isO c = true) : c = clO := by
  unfold isO at h
  split at h
  · obtain rfl := Nat.eq_of_beq_eq_true h; rfl
  · cases h
abbrev liveO : List (Nat × Dir) := [(0, .keep), (1, .keep), (4, .keep), (7, .keep), (8, .keep)]
def vsO (l : List Int) (c : AV) (r n i : Int) : List AV := [.one (.sl false I none l), c, .one (.int .i64 r), .one (.int .i64 n), .one (.int .i64 i)]
def ΓO : Orc := orc [(N377, s377)]
noncomputable abbrev lpO (Λ : Lam AV) (K : AE → List AV → Option AV) (fuel : Nat) (vs : List AV) : Option AV := loopN (aexec tb ΓO Λ ⟨19, 0, [(0, liveO)]⟩ (loopK F101 0).2 0) 19 0 liveO K fuel vs
theorem stepO (l : List Int) (r n i : Int) (Λ : Lam AV) (fuel : Nat) (K : AE → List AV → Option AV) : lpO Λ K (fuel + 1) (vsO l clO r n i) =
    bif decide (i < n) then bif inB i l.length then bif oddB (iAt l i) then K .ret (vsO l clO i n i) else lpO Λ K fuel (vsO l clO r n (IntKind.i64.wrap (i + 1))) else none else K (.exit 0) (vsO l clO r n i) := by kernel_rfl
def ΛO : Lam AV := fun cur vs K =>
  match cur, vs with
  | 0, [.one (.sl false (.int .i64) none l), c, .one (.int .i64 r), .one (.int .i64 n), .one (.int .i64 0)] =>
    bif isO c && decide (n = l.length) && decide (n ≤ 9223372036854775807) then
      bif decide (idxFrom oddB l 0 < 0) then K (.exit 0) (vsO l c r n n) else K .ret (vsO l c (idxFrom oddB l 0) n (idxFrom oddB l 0))
    else none
  | _, _ => none
theorem iAt_cons {l : List Int} {j : Nat} (h : j < l.length) : l.drop j = iAt l j :: l.drop (j + 1) := by
  rw [List.drop_eq_getElem_cons h]
  simp [iAt, h]
theorem loopO : LoopP tb ΓO ΛO ⟨19, 0, [(0, liveO)]⟩ (loopK F101 0) := by
  intro vs K out e
  have hcur : (loopK F101 0).1 = 0 := by kernel_rfl
  rw [hcur] at e ⊢
  unfold ΛO at e
  split at e
  · rename_i l c r n _
    cases hc : (isO c && decide (n = l.length) && decide (n ≤ 9223372036854775807)) with
    | false => rw [hc] at e; cases e
    | true =>
      rw [hc] at e
      simp only [cond_true] at e
      simp only [Bool.and_eq_true, decide_eq_true_eq] at hc
      obtain ⟨⟨hc, rfl⟩, hmax⟩ := hc
      obtain rfl := isO_eq hc
      refine upLoop (α := Unit) (n := l.length) (F := fun fuel _ i => lpO ΛO K fuel (vsO l clO r l.length i))
        (G := fun j _ => bif decide (idxFrom oddB (l.drop j) j < 0) then K (.exit 0) (vsO l clO r l.length l.length) else K .ret (vsO l clO (idxFrom oddB (l.drop j) j) l.length (idxFrom oddB (l.drop j) j)))
        (fun fuel _ => ?_) (fun _ j hj => ?_) l.length 0 () out (by omega) e
      · simp only [stepO, nlt_dec, cond_false, List.drop_length, idxFrom]; rfl
      · cases hx : oddB (iAt l j) with
        | true =>
          right; intro fuel
          have h0 : decide ((j : Int) < 0) = false := by simp
          simp only [stepO, lt_dec hj, inB_lt hj, hx, cond_true, cond_false, iAt_cons hj, idxFrom, h0]
        | false =>
          left; refine ⟨(), fun fuel => ?_, ?_⟩
          · simp only [stepO, lt_dec hj, inB_lt hj, hx, cond_true, cond_false]
            rw [wrap64 (by omega) (by omega)]; rfl
          · simp only [iAt_cons hj, idxFrom, hx, cond_false]; rfl
  · cases e
def rO (l : List Int) : Option AV :=
  bif isO clO && decide ((l.length : Int) = l.length) && decide ((l.length : Int) ≤ 9223372036854775807) then bif decide (idxFrom oddB l 0 < 0) then some (.one (.int .i64 (-1))) else some (.one (.int .i64 (idxFrom oddB l 0))) else none
theorem r101o (l : List Int) : run ΓO ΛO [(0, liveO)] F101 [.one (.sl false I none l), clO] [] = rO l := by kernel_rfl
def s101o : Sp := .fn [.v (.sl I), .raw] fun x => (isO x.2, .one (.int .i64 (idxFrom oddB x.1 0)))
theorem g101o : GoodS Try.prog N101 s101o := by
  refine good (.cons g377 (.nil _)) H101 rfl (by kernel_rfl) ΛO [(0, liveO)] (oneLoop (p0 := loopK F101 0) (by kernel_rfl) loopO) [.v (.sl I), .raw] (by decide) [] _ fun x r hw h => ?_
  obtain ⟨l, c⟩ := x
  simp only [Prod.mk.injEq] at h
  obtain ⟨h1, rfl⟩ := h
  obtain rfl := isO_eq h1
  refine (r101o l).trans ?_
  unfold rO
  rw [show (isO clO && decide ((l.length : Int) = l.length) && decide ((l.length : Int) ≤ 9223372036854775807)) = true by rw [h1, Bool.true_and]; exact lenMax hw.1.1]
  rcases idxFrom_ge oddB l 0 with h | h
  · rw [h]; rfl
  · have : decide (idxFrom oddB l 0 < 0) = false := by simpa using h
    rw [this]; rfl
theorem r67o (l : List Int) : run (orc [(N101, s101o)]) noL [] F67 [.one (.sl false I none l), clO] [] = some (.one (.bool (decide (idxFrom oddB l 0 ≥ 0)))) := by kernel_rfl
def s67o : Sp := .fn [.v (.sl I), .raw] fun x => (isO x.2, .one (.bool (x.1.any oddB)))
theorem g67o : GoodS Try.prog N67 s67o := by
  refine good (.cons g101o (.nil _)) H67 rfl (by kernel_rfl) noL [] (noLoops (by kernel_rfl)) [.v (.sl I), .raw] (by decide) [] _ fun x r hw h => ?_
  obtain ⟨l, c⟩ := x
  simp only [Prod.mk.injEq] at h
  obtain ⟨h1, rfl⟩ := h
  obtain rfl := isO_eq h1
  refine (r67o l).trans ?_
  rw [idx_any _ _ _ (Int.le_refl 0)]


def gWT (x : WS) : AV := .gho (wkT x).ov
theorem gWT_eq {o : OV} {x : WS} (h : unWT o.av = some x) : AV.gho o = gWT x := by
  have := unWT_eq h
  unfold gWT
  rw [← this]
  cases o <;> first | rfl | cases h
/-! ### label.Walk -/
def Γ346 : Orc := orc [(N351, s351), (N67, s67o), (N353, s353), (N354, s354)]
abbrev live346 : List (Nat × Dir) := [(6, .keep), (9, .keep), (32, .keep), (33, .keep), (34, .keep), (47, .keep)]
def vs346 (l : List Int) (n i : Int) (x : WS) : List AV := [.own (enc Value false zeroV), .one (.ptr 47 0), .one (.sl false I none l), .one (.int .i64 n), .one (.int .i64 i), gWT x]
noncomputable abbrev lp346 (Λ : Lam AV) (K : AE → List AV → Option AV) (fuel : Nat) (vs : List AV) : Option AV := loopN (aexec tb Γ346 Λ ⟨47, 1, [(0, live346)]⟩ (loopK F346 0).2 0) 47 1 live346 K fuel vs
theorem step346 (l : List Int) (n i : Int) (x : WS) (Λ : Lam AV) (fuel : Nat) (K : AE → List AV → Option AV) : lp346 Λ K (fuel + 1) (vs346 l n i x) =
    bif decide (i < n) then bif inB i l.length then lp346 Λ K fuel (vs346 l n (IntKind.i64.wrap (i + 1)) (stepW x (iAt l i))) else none else K (.exit 0) (vs346 l n i x) := by kernel_rfl
def Λ346 : Lam AV := fun cur vs K =>
  match cur, vs with
  | 0, [.own [.bool false, .bool false, .int .u64 0, .int .u64 0, .int .u64 0, .int .u64 0, .int .u64 0, .int .u64 0, .int .i64 0], .one (.ptr 47 0), .one (.sl false (.int .i64) none l), .one (.int .i64 n), .one (.int .i64 0), .gho o] =>
    (match unWT o.av with
    | some x => bif decide (n = l.length) && decide (n ≤ 9223372036854775807) then K (.exit 0) (vs346 l n n (walkL x l)) else none
    | none => none)
  | _, _ => none
theorem loop346 : LoopP tb Γ346 Λ346 ⟨47, 1, [(0, live346)]⟩ (loopK F346 0) := by
  intro vs K out e
  have hcur : (loopK F346 0).1 = 0 := by kernel_rfl
  rw [hcur] at e ⊢
  unfold Λ346 at e
  split at e
  · rename_i l n o _
    split at e
    · rename_i x hx
      cases hc : (decide (n = l.length) && decide (n ≤ 9223372036854775807)) with
      | false => rw [hc] at e; cases e
      | true =>
        rw [hc] at e
        simp only [cond_true] at e
        simp only [Bool.and_eq_true, decide_eq_true_eq] at hc
        obtain ⟨rfl, hmax⟩ := hc
        rw [gWT_eq hx]
        refine upLoopR (α := WS) (n := l.length) (F := fun fuel x i => lp346 Λ346 K fuel (vs346 l l.length i x)) (G := fun j x => K (.exit 0) (vs346 l l.length l.length (walkL x (l.drop j))))
          (fun fuel x => ?_) (fun x j hj => ?_) l.length 0 x out (by omega) e
        · simp only [step346, nlt_dec, cond_false, List.drop_length, walkL]
        · left
          refine ⟨stepW x (iAt l j), fun fuel => ?_, by rw [walk_drop hj]⟩
          simp only [step346, lt_dec hj, inB_lt hj, cond_true]
          rw [wrap64 (by omega) (by omega)]; rfl
    · cases e
  · cases e
@[reducible] def W3 : List AK := [.v (.sl Term), .v Value, .v (.sl I)]
def noWalk (l : List Term.D) (v : Value.D) (sd : List Int) : Bool := bif bif startE l v != 0 then true else decide ((sd.length : Int) > 32) then true else sd.any oddB
def walkV (l : List Term.D) (v : Value.D) (sd : List Int) : WS := bif noWalk l v sd then (zeroV, [], 1) else endW (walkL (startW l v) sd)
theorem r346 (l : List Term.D) (v : Value.D) (sd : List Int) : runG Γ346 Λ346 1 [(0, live346)] F346 (encA W3 (l, v, sd)) wVle =
    bif small24 l.length then bif noWalk l v sd then some (vle (zeroV, [], 1)) else bif lenB sd then some (vle (endW (walkL (startW l v) sd))) else none else none := by kernel_rfl
def s346 : Sp := .fn W3 fun x => (small24 x.1.length, vle (walkV x.1 x.2.1 x.2.2))
theorem Γ346ok : OrcOk Try.prog Γ346 := .cons g351 (.cons g67o (.cons g353 (.cons g354 (.nil _))))
theorem g346 : GoodS Try.prog N346 s346 := by
  refine goodG Γ346ok H346 rfl (by kernel_rfl) Λ346 1 [(0, live346)] (oneLoop (p0 := loopK F346 0) (by kernel_rfl) loop346) W3 (by decide) wVle _ fun x r hw e => ?_
  obtain ⟨l, v, sd⟩ := x
  have e1 := congrArg Prod.fst e
  have e2 := congrArg Prod.snd e
  simp only at e1 e2
  refine (r346 l v sd).trans ?_
  rw [e1, ← e2, show lenB sd = true from lenMax hw.2.2.1]
  unfold walkV
  cases noWalk l v sd <;> rfl

/-! ### label.Label, Key -/
@[reducible] def L4 : List AK := [.v (.sl Term), .v I, .v Value, .v Subset]
def ΓLa : Orc := orc [(N351, s351), (N341, s341), (N352, s352), (N354, s354)]
def noLab (l : List Term.D) (h : Int) (v : Value.D) (s : Subset.D) : Bool := bif startE l v != 0 then true else subE h s != 0
def labelV (l : List Term.D) (h : Int) (v : Value.D) (s : Subset.D) : WS := bif noLab l h v s then (zeroV, [], 1) else endW (labelW (startW l v) h s)
theorem r347 (l : List Term.D) (h : Int) (v : Value.D) (s : Subset.D) : runG ΓLa noL 1 [] F347 (encA L4 (l, h, v, s)) wVle =
    bif small24 l.length then bif noLab l h v s then some (vle (zeroV, [], 1)) else some (vle (endW (labelW (startW l v) h s))) else none := by kernel_rfl
def s347 : Sp := .fn L4 fun x => (small24 x.1.length, vle (labelV x.1 x.2.1 x.2.2.1 x.2.2.2))
theorem g347 : GoodS Try.prog N347 s347 := by
  refine goodG (.cons g351 (.cons g341 (.cons g352 (.cons g354 (.nil _))))) H347 rfl (by kernel_rfl) noL 1 [] (noLoops (by kernel_rfl)) L4 (by decide) wVle _ fun x r hw e => ?_
  obtain ⟨l, h, v, s⟩ := x
  have e1 := congrArg Prod.fst e
  have e2 := congrArg Prod.snd e
  simp only at e1 e2
  refine (r347 l h v s).trans ?_
  rw [e1, ← e2]
  unfold labelV
  cases noLab l h v s <;> rfl
@[reducible] def L5 : List AK := [.v (.sl Term), .v I, .v I, .v Value, .v Subset]
def ΓKe : Orc := orc [(N351, s351), (N318, s318), (N352, s352), (N353, s353), (N354, s354)]
def noKey (l : List Term.D) (h k : Int) (v : Value.D) (s : Subset.D) : Bool := bif bif startE l v != 0 then true else (mayI h k s).2 != 0 then true else !(mayI h k s).1
def keyV (l : List Term.D) (h k : Int) (v : Value.D) (s : Subset.D) : WS := bif noKey l h k v s then (zeroV, [], 1) else bif k != 1 then endW (stepW (labelW (startW l v) h s) 2) else endW (labelW (startW l v) h s)
theorem r320 (l : List Term.D) (h k : Int) (v : Value.D) (s : Subset.D) : runG ΓKe noL 1 [] F320 (encA L5 (l, h, k, v, s)) wVle =
    bif small24 l.length then bif noKey l h k v s then some (vle (zeroV, [], 1)) else bif k != 1 then some (vle (endW (stepW (labelW (startW l v) h s) 2))) else some (vle (endW (labelW (startW l v) h s))) else none := by kernel_rfl
def s320 : Sp := .fn L5 fun x => (small24 x.1.length, vle (keyV x.1 x.2.1 x.2.2.1 x.2.2.2.1 x.2.2.2.2))
theorem g320 : GoodS Try.prog N320 s320 := by
  refine goodG (.cons g351 (.cons g318 (.cons g352 (.cons g353 (.cons g354 (.nil _)))))) H320 rfl (by kernel_rfl) noL 1 [] (noLoops (by kernel_rfl)) L5 (by decide) wVle _ fun x r hw e => ?_
  obtain ⟨l, h, k, v, s⟩ := x
  have e1 := congrArg Prod.fst e
  have e2 := congrArg Prod.snd e
  simp only at e1 e2
  refine (r320 l h k v s).trans ?_
  rw [e1, ← e2]
  unfold keyV
  cases noKey l h k v s with
  | true => rfl
  | false => cases k != 1 <;> rfl
end Go.AM.Seat
