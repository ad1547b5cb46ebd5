/- The seat: contracts: value.Eval. -/
import Derived.Test.YtoeijiackpanoaaDoorPlWi
import Derived.Test.YtoeijiackpanoaaDoorSe6S
import Derived.Test.YtoeijiackpanoaaDoorSeCl
set_option linter.unusedVariables false
set_option linter.unusedSimpArgs false
set_option maxRecDepth 100000
namespace Go.AM.Seat
open Go Go.AM Go.Proofs

def Γ82 : Orc := orc [(N46, s46), (N53, s53)]
abbrev Vs := List (I.D × Value.D)
def bAt (g : List Block.D) (i : Int) : Block.D := g.getD i.toNat Block.dflt
def vOf (es : Vs) (i : Int) : Value.D := mgetD (kt := I) (vt := Value) i es
/-- A term's value, its parts' values known. -/
def plainT (es : Vs) (t : Term.D) (g : List Block.D) : Value.D :=
  bif t.1 == 1 then octV (bAt g t.2.1) else bif t.1 == 5 then sealV (wrapB (vOf es t.2.1).2.2.1 (vOf es t.2.2).2.2.1) else octV (partR (vOf es t.2.1).2.2.1 (IntKind.i64.wrap (t.1 - 2))).1
theorem r82 (es : Vs) (t : Term.D) (g : List Block.D) : run Γ82 noL [] F82 [.one (.sm false I Value es), encV Term t, .one (.sl false Block none g)] [] =
    bif t.1 == 1 then bif inB t.2.1 g.length then some (encV Value (octV (bAt g t.2.1))) else none else
    bif t.1 == 5 then some (encV Value (sealV (wrapB (vOf es t.2.1).2.2.1 (vOf es t.2.2).2.2.1))) else some (encV Value (octV (partR (vOf es t.2.1).2.2.1 (IntKind.i64.wrap (t.1 - 2))).1)) := by kernel_rfl
def okPl (t : Term.D) (g : List Block.D) : Bool := bif t.1 == 1 then inB t.2.1 g.length else true
def s82 : Sp := .fn [.raw, .v Term, .v (.sl Block)] fun x => match x.1 with
  | .one (.sm false (.int .i64) (.pair .bool (.pair .bool (.pair (.pair (.int .u64) (.int .u64)) (.pair (.pair (.pair (.int .u64) (.int .u64)) (.pair (.int .u64) (.int .u64))) (.int .i64))))) es) => (okPl x.2.1 x.2.2, encV Value (plainT es x.2.1 x.2.2))
  | _ => (false, AV.junk)
theorem g82 : GoodS Tryd.prog N82 s82 := by
  refine good (.cons g46 (.cons g53 (.nil _))) H82 rfl (by kernel_rfl) noL [] (noLoops (by kernel_rfl)) [.raw, .v Term, .v (.sl Block)] (by decide) [] _ fun x r hw e => ?_
  obtain ⟨m, t, g⟩ := x
  simp only at e
  split at e
  · rename_i es
    simp only [Prod.mk.injEq] at e
    obtain ⟨h1, rfl⟩ := e
    refine (r82 es t g).trans ?_
    unfold okPl at h1
    unfold plainT
    cases h2 : t.1 == 1 with
    | true => rw [h2] at h1; simp only [cond_true] at h1 ⊢; rw [h1]; rfl
    | false => cases t.1 == 5 <;> rfl
  · cases e
/-! ### its two closures -/
def q80 (l : List Term.D) (i : Int) : CPr := (fun k => inB k l.length, fun k => bif (tAt l k).1 == 5 then k != i else false)
theorem r80 (k : Int) (l : List Term.D) (i : Int) : run (orc []) noL [] F80 [.one (.int .i64 k), .one (.rp false (.sl Term) l 0), .one (.rp false I i 0)] [] =
    bif inB k l.length then some (.one (.bool (bif (tAt l k).1 == 5 then k != i else false))) else none := by kernel_rfl
def s80 : Sp := .fn [.v I, .raw, .raw] fun x => match x.2.1, x.2.2 with
  | .one (.rp false (.sl (.pair (.int .i64) (.pair (.int .i64) (.int .i64)))) l 0), .one (.rp false (.int .i64) i 0) => ((q80 l i).1 x.1, .one (.bool ((q80 l i).2 x.1)))
  | _, _ => (false, AV.junk)
theorem g80 : GoodS Tryd.prog N80 s80 := by
  refine good (OrcOk.nil _) H80 rfl (by kernel_rfl) noL [] (noLoops (by kernel_rfl)) [.v I, .raw, .raw] (by decide) [] _ fun x r hw e => ?_
  obtain ⟨k, a, b⟩ := x
  simp only at e
  split at e
  · rename_i l i
    simp only [Prod.mk.injEq] at e
    obtain ⟨h1, rfl⟩ := e
    exact (r80 k l i).trans (by unfold q80 at h1 ⊢; simp only at h1 ⊢; rw [h1]; rfl)
  · cases e
def q81 (l : List Term.D) (g : List Block.D) : CPr := (fun k => inB k l.length, fun k => bif (tAt l k).1 == 1 then decide ((tAt l k).2.1 ≥ (g.length : Int)) else false)
theorem r81 (k : Int) (l : List Term.D) (g : List Block.D) : run (orc []) noL [] F81 [.one (.int .i64 k), .one (.rp false (.sl Term) l 0), .one (.rp false (.sl Block) g 0)] [] =
    bif inB k l.length then bif (tAt l k).1 == 1 then bif inB k l.length then some (.one (.bool (decide ((tAt l k).2.1 ≥ (g.length : Int))))) else none else some (.one (.bool false)) else none := by kernel_rfl
def s81 : Sp := .fn [.v I, .raw, .raw] fun x => match x.2.1, x.2.2 with
  | .one (.rp false (.sl (.pair (.int .i64) (.pair (.int .i64) (.int .i64)))) l 0), .one (.rp false (.sl (.pair (.int .u64) (.int .u64))) g 0) => ((q81 l g).1 x.1, .one (.bool ((q81 l g).2 x.1)))
  | _, _ => (false, AV.junk)
theorem g81 : GoodS Tryd.prog N81 s81 := by
  refine good (OrcOk.nil _) H81 rfl (by kernel_rfl) noL [] (noLoops (by kernel_rfl)) [.v I, .raw, .raw] (by decide) [] _ fun x r hw e => ?_
  obtain ⟨k, a, b⟩ := x
  simp only at e
  split at e
  · rename_i l g
    simp only [Prod.mk.injEq] at e
    obtain ⟨h1, rfl⟩ := e
    refine (r81 k l g).trans ?_
    unfold q81 at h1 ⊢
    simp only at h1 ⊢
    rw [h1]
    cases (tAt l k).1 == 1 <;> rfl
  · cases e
def clE (c : AV) : Option CPr :=
  match c with
  | .one (.fn f [.ptrD false (.sl (.pair (.int .i64) (.pair (.int .i64) (.int .i64)))) l, .ptrD false (.int .i64) i]) => bif Nat.beq f N80 then some (q80 l i) else none
  | .one (.fn f [.ptrD false (.sl (.pair (.int .i64) (.pair (.int .i64) (.int .i64)))) l, .ptrD false (.sl (.pair (.int .u64) (.int .u64))) g]) => bif Nat.beq f N81 then some (q81 l g) else none
  | _ => none
theorem clE_some {c : AV} {q : CPr} (h : clE c = some q) : (∃ l i, c = .one (.fn N80 [.ptrD false (.sl Term) l, .ptrD false I i]) ∧ q = q80 l i) ∨ (∃ l g, c = .one (.fn N81 [.ptrD false (.sl Term) l, .ptrD false (.sl Block) g]) ∧ q = q81 l g) := by
  unfold clE at h
  split at h
  · rename_i f l i
    cases hf : Nat.beq f N80 with
    | false => rw [hf] at h; cases h
    | true => rw [hf] at h; cases h; obtain rfl := Nat.eq_of_beq_eq_true hf; exact .inl ⟨l, i, rfl, rfl⟩
  · rename_i f l g
    cases hf : Nat.beq f N81 with
    | false => rw [hf] at h; cases h
    | true => rw [hf] at h; cases h; obtain rfl := Nat.eq_of_beq_eq_true hf; exact .inr ⟨l, g, rfl, rfl⟩
  · cases h
def ΓcE : Orc := orc [(N80, s80), (N81, s81)]
theorem stepE (c : AV) (q : CPr) (h : clE c = some q) : StepC ΓcE c q := by
  rcases clE_some h with ⟨l, i, rfl, rfl⟩ | ⟨l, g, rfl, rfl⟩
  · intro Λ f nl xs r n i' K fuel; kernel_rfl
  · intro Λ f nl xs r n i' K fuel; kernel_rfl
theorem runE1 (c : AV) (q : CPr) (h : clE c = some q) : RunC ΓcE clE c q := by
  rcases clE_some h with ⟨l, i, rfl, rfl⟩ | ⟨l, g, rfl, rfl⟩
  · intro xs; kernel_rfl
  · intro xs; kernel_rfl
theorem runE2 (c : AV) (q : CPr) (h : clE c = some q) : RunC2 clE c q := by
  rcases clE_some h with ⟨l, i, rfl, rfl⟩ | ⟨l, g, rfl, rfl⟩
  · intro xs; kernel_rfl
  · intro xs; kernel_rfl
theorem g67E : GoodS Tryd.prog N67 (s67c clE) := g67c (g101c (.cons g80 (.cons g81 (.nil _))) rfl stepE runE1) runE2
/-! ### value.Eval -/
def Γ42 : Orc := orc [(N35, s35), (N67, s67c clE), (N82, s82)]
abbrev live42 : List (Nat × List (Nat × Dir)) := [(1, [(3, .keep), (4, .keep), (5, .keep), (6, .keep), (12, .keep), (39, .keep), (40, .keep), (41, .keep), (42, .keep)])]
def w42 (l : List Term.D) (i : Int) (g : List Block.D) (es : Vs) (ks : List Int) (n j : Int) : List AV :=
  [.own [.sl false Term none l], .own [.int .i64 i], .own [.sl false Block none g], .own (enc Value true zeroV), .one (.mref 39), .mapO true I Value es, .one (.sl true I none ks), .one (.int .i64 n), .one (.int .i64 j)]
noncomputable abbrev lo42 (Λ : Lam AV) (K : AE → List AV → Option AV) (fuel : Nat) (vs : List AV) : Option AV := loopN (aexec tb Γ42 Λ ⟨59, 0, live42⟩ (loop1 F42).2 1) 59 0 (Lay.get ⟨59, 0, live42⟩ 1) K fuel vs
def evF (l : List Term.D) (g : List Block.D) : List Int → Vs → Vs
  | [], es => es
  | k :: r, es => evF l g r (mput (kt := I) (vt := Value) k (plainT es (tAt l k) g) es)
def okK (l : List Term.D) (g : List Block.D) (k : Int) : Bool := inB k l.length && okPl (tAt l k) g
def Λ42 : Lam AV := fun cur vs K =>
  match cur, vs with
  | 1, [.own [.sl false (.pair (.int .i64) (.pair (.int .i64) (.int .i64))) none l], .own [.int .i64 i], .own [.sl false (.pair (.int .u64) (.int .u64)) none g], .own [.bool false, .bool false, .int .u64 0, .int .u64 0, .int .u64 0, .int .u64 0, .int .u64 0, .int .u64 0, .int .i64 0], .one (.mref 39), .mapO true (.int .i64) (.pair .bool (.pair .bool (.pair (.pair (.int .u64) (.int .u64)) (.pair (.pair (.pair (.int .u64) (.int .u64)) (.pair (.int .u64) (.int .u64))) (.int .i64))))) es, .one (.sl true (.int .i64) none ks), .one (.int .i64 n), .one (.int .i64 0)] =>
    bif decide (n = ks.length) && decide (n ≤ 9223372036854775807) && ks.all (okK l g) then K (.exit 1) (w42 l i g (evF l g ks es) ks n n) else none
  | _, _ => none
theorem step42 (l : List Term.D) (i : Int) (g : List Block.D) (es : Vs) (ks : List Int) (n j : Int) (Λ : Lam AV) (K : AE → List AV → Option AV) (fuel : Nat) : lo42 Λ K (fuel + 1) (w42 l i g es ks n j) =
    bif decide (j < n) then bif inB j ks.length then bif inB (iX ks j) l.length then bif okPl (tAt l (iX ks j)) g then
      lo42 Λ K fuel (w42 l i g (mput (kt := I) (vt := Value) (iX ks j) (plainT es (tAt l (iX ks j)) g) es) ks n (IntKind.i64.wrap (j + 1))) else none else none else none else K (.exit 1) (w42 l i g es ks n j) := by kernel_rfl
theorem iX_cons {l : List Int} {j : Nat} (h : j < l.length) : l.drop j = iX l j :: l.drop (j + 1) := by
  rw [List.drop_eq_getElem_cons h]
  simp [iX, h]
theorem iX_nat {q : List Int} {k : Nat} (h : k < q.length) : iX q k = q[k] := by unfold iX; simp [h]
theorem loop42 : LoopP tb Γ42 Λ42 ⟨59, 0, live42⟩ (loop1 F42) := by
  intro vs K out h
  have hcur : (loop1 F42).1 = 1 := by kernel_rfl
  rw [hcur] at h ⊢
  unfold Λ42 at h
  split at h
  · rename_i l i g es ks n _
    cases hc : (decide (n = ks.length) && decide (n ≤ 9223372036854775807) && ks.all (okK l g)) with
    | false => rw [hc] at h; cases h
    | true =>
      rw [hc] at h
      simp only [cond_true] at h
      simp only [Bool.and_eq_true, decide_eq_true_eq] at hc
      obtain ⟨⟨rfl, hmax⟩, hall⟩ := hc
      have key : ∀ (m j : Nat) (es : Vs), j + m = ks.length → K (.exit 1) (w42 l i g (evF l g (ks.drop j) es) ks ks.length ks.length) = some out → ∃ fuel, lo42 Λ42 K fuel (w42 l i g es ks ks.length j) = some out := by
        intro m
        induction m with
        | zero =>
          intro j es hj h
          obtain rfl : j = ks.length := by omega
          rw [List.drop_length] at h
          exact ⟨1, by rw [step42, nlt_dec]; exact h⟩
        | succ m ih =>
          intro j es hj h
          have hlt : j < ks.length := by omega
          have hok : okK l g (iX ks j) = true := List.all_eq_true.1 hall _ (by rw [iX_nat hlt]; exact List.getElem_mem hlt)
          unfold okK at hok
          simp only [Bool.and_eq_true] at hok
          rw [iX_cons hlt] at h
          obtain ⟨fuel, hf⟩ := ih (j + 1) _ (by omega) h
          refine ⟨fuel + 1, ?_⟩
          rw [step42, lt_dec hlt, inB_lt hlt, hok.1, hok.2, wrap64 (n := (j : Int) + 1) (by omega) (by omega)]
          exact hf
      exact key ks.length 0 es (by omega) h
  · cases h
def veR (v : Value.D) (e : Int) : AV := .tup [(true, enc Value true v), (false, [.int .i64 e])]
theorem r42 (l : List Term.D) (i : Int) (g : List Block.D) : run Γ42 Λ42 live42 F42 (encA [.v (.sl Term), .v I, .v (.sl Block)] (l, i, g)) [] =
    bif (withinI l i).2 != 0 then some (veR zeroV (withinI l i).2) else
    bif (withinI l i).1.all (q80 l i).1 then bif (withinI l i).1.any (q80 l i).2 then some (veR zeroV 1) else
    bif (withinI l i).1.all (q81 l g).1 then bif (withinI l i).1.any (q81 l g).2 then some (veR zeroV 4) else
    bif decide (((withinI l i).1.length : Int) = (withinI l i).1.length) && decide (((withinI l i).1.length : Int) ≤ 9223372036854775807) && (withinI l i).1.all (okK l g) then
      some (veR (vOf (evF l g (withinI l i).1 []) i) 0) else none else none else none := by kernel_rfl
def evalI (l : List Term.D) (i : Int) (g : List Block.D) : Value.D × Int :=
  bif (withinI l i).2 != 0 then (zeroV, (withinI l i).2) else bif (withinI l i).1.any (q80 l i).2 then (zeroV, 1) else bif (withinI l i).1.any (q81 l g).2 then (zeroV, 4) else (vOf (evF l g (withinI l i).1 []) i, 0)
def s42 : Sp := .fn [.v (.sl Term), .v I, .v (.sl Block)] fun x => (true, veR (evalI x.1 x.2.1 x.2.2).1 (evalI x.1 x.2.1 x.2.2).2)
theorem thereI_or {l : List Term.D} {i : Int} : thereI l i = 0 ∨ withinI l i = ([], thereI l i) ∧ thereI l i ≠ 0 := by
  rcases Classical.em (thereI l i = 0) with h | h
  · exact .inl h
  · refine .inr ⟨?_, h⟩
    unfold withinI; rw [show (thereI l i != 0) = true by simpa using h]; rfl
theorem inB_of {x : Int} {n : Nat} (h0 : 0 ≤ x) (h1 : x < n) : inB x n = true := by unfold inB; rw [decide_eq_true h0, decide_eq_true h1]; rfl
theorem g42 : GoodS Tryd.prog N42 s42 := by
  refine good (.cons g35 (.cons g67E (.cons g82 (.nil _)))) H42 rfl (by kernel_rfl) Λ42 live42 (oneLoop (p0 := loop1 F42) (by kernel_rfl) loop42) [.v (.sl Term), .v I, .v (.sl Block)] (by decide) [] _ fun x r hw e => ?_
  obtain ⟨l, i, g⟩ := x
  cases e
  refine (r42 l i g).trans ?_
  show _ = some (veR (evalI l i g).1 (evalI l i g).2)
  unfold evalI
  rcases thereI_or (l := l) (i := i) with ht | ⟨h1, h2⟩
  · obtain ⟨w1, w2, w3, w4⟩ := within_mem ht
    obtain ⟨hg, ha, hi, _⟩ := within_ok ht
    have hmx := hg.1
    obtain ⟨W, hW⟩ : ∃ W, W = (withinI l i).1 := ⟨_, rfl⟩
    rw [← hW] at w2 w3 w4 ⊢
    have hin : ∀ x ∈ W, inB x l.length = true := fun x hx => inB_of (w4 x hx).1 (by have := (w4 x hx).2; omega)
    have hlen := nodup_len (i.toNat + 1) W (w3.imp fun h => by omega) fun x hx => by have := w4 x hx; omega
    rw [w1, show W.all (q80 l i).1 = true from List.all_eq_true.2 hin, show W.all (q81 l g).1 = true from List.all_eq_true.2 hin, decide_eq_true (rfl : (W.length : Int) = W.length), decide_eq_true (show (W.length : Int) ≤ 9223372036854775807 by omega)]
    cases h80 : W.any (q80 l i).2 with
    | true => rfl
    | false =>
      cases h81 : W.any (q81 l g).2 with
      | true => rfl
      | false =>
        have hok : W.all (okK l g) = true := by
          refine List.all_eq_true.2 fun x hx => ?_
          have h5 := List.any_eq_false.1 h81 x hx
          have hr := w4 x hx
          unfold okK okPl
          rw [hin x hx]
          simp only [Bool.true_and]
          cases hk : (tAt l x).1 == 1 with
          | false => rfl
          | true =>
            simp only [cond_true]
            unfold q81 at h5
            simp only [hk, cond_true, decide_eq_true_eq] at h5
            obtain ⟨n, rfl⟩ := Int.eq_ofNat_of_zero_le hr.1
            have hn : n < l.length := by omega
            have hm := (hg.2 n _ (List.getElem?_eq_getElem hn)).1
            have e9 : tAt l (n : Int) = l[n] := tAt_get (List.getElem?_eq_getElem hn)
            rw [e9] at hk h5 ⊢
            unfold mayB at hm
            cases hb : mayBad l[n] with
            | true => rw [hb] at hm; cases hm
            | false =>
              rw [hb, hk] at hm
              simp only [cond_false, cond_true] at hm
              cases h7 : decide (l[n].2.1 ≥ 0) with
              | false => rw [h7] at hm; cases hm
              | true =>
                simp only [decide_eq_true_eq] at h7
                exact inB_of h7 (Int.lt_of_not_ge h5)
        rw [hok]; rfl
  · rw [h1, show ((([] : List Int), thereI l i).2 != 0) = true by simpa using h2]; rfl
end Go.AM.Seat
