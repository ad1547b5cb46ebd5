/- The seat: contracts: the definition's Within. -/
import Derived.Test.YtnkdeglckmogcaaPlEv
import Derived.Test.YtnkdeglckmogcaaSeWp
import Derived.Test.YtnkdeglckmogcaaPlTR
set_option linter.unusedVariables false
set_option linter.unusedSimpArgs false
set_option maxRecDepth 100000
namespace Go.AM.Seat
open Go Go.AM Go.Proofs

def Γ102 : Orc := orc [(N51, s51)]
theorem r102 (l : List Term.D) (i : Int) : run Γ102 noL [] F102 (encA [.v (.sl Term), .v I] (l, i)) [] =
    some (.one (.bool (bif bif checkR l == 0 then decide (i ≥ 0) else false then decide (i < (l.length : Int)) else false))) := by kernel_rfl
def s102 : Sp := .fn [.v (.sl Term), .v I] fun x => (true, .one (.bool (thereI x.1 x.2 == 0)))
theorem thereI_beq (l : List Term.D) (i : Int) : (bif bif checkL l == 0 then decide (i ≥ 0) else false then decide (i < (l.length : Int)) else false) = (thereI l i == 0) := by
  have h01 : ∀ z : Int, (z == 0) = decide (z = 0) := fun z => by by_cases h : z = 0 <;> simp [h]
  rw [h01, h01]
  have e : decide (thereI l i = 0) = decide (checkL l = 0 ∧ 0 ≤ i ∧ i < (l.length : Int)) := decide_eq_decide.2 (there_iff.trans (by rw [checkL_iff]))
  rw [e]
  by_cases h1 : checkL l = 0 <;> by_cases h2 : 0 ≤ i <;> simp [h1, h2]
theorem g102 : GoodS Try.prog N102 s102 := by
  refine good (.cons g51 (.nil _)) H102 rfl (by kernel_rfl) noL [] (noLoops (by kernel_rfl)) [.v (.sl Term), .v I] (by decide) [] _ fun x r hw e => ?_
  obtain ⟨l, i⟩ := x
  cases e
  refine (r102 l i).trans ?_
  rw [checkR_eq, thereI_beq]
def Γ83 : Orc := orc [(N102, s102), (N36, s74)]
abbrev live83 : List (Nat × List (Nat × Dir)) := [(0, [(0, .keep), (6, .keep), (7, .keep), (19, .keep)]), (2, [(0, .keep), (6, .keep), (7, .keep), (19, .keep), (36, .keep), (37, .keep), (38, .keep)]), (4, [(10, .arr I), (19, .keep), (46, .keep), (47, .keep), (48, .keep)])]
def bool1 (b : List Bool) (k : Int) : Bool := b.getD k.toNat Ty.bool.dflt
def u0 (l : List Term.D) (k : Int) (b : List Bool) : List AV := [.one (.sl false Term none l), .one (.hot 19 none), .one (.int .i64 k), .arr true .bool b]
def u2 (l : List Term.D) (k : Int) (b : List Bool) (ps : List Int) (n j : Int) : List AV := [.one (.sl false Term none l), .one (.hot 19 none), .one (.int .i64 k), .arr true .bool b, .one (.sl true I none ps), .one (.int .i64 n), .one (.int .i64 j)]
def u4 (o : List Int) (b : List Bool) (n j : Int) : List AV := [.arr true I o, .arr true .bool b, .one (.hot 19 none), .one (.int .i64 n), .one (.int .i64 j)]
noncomputable abbrev lo83 (Λ : Lam AV) (K : AE → List AV → Option AV) (fuel : Nat) (vs : List AV) : Option AV := loopN (aexec tb Γ83 Λ ⟨60, 0, live83⟩ (lkW F83 0).2 0) 60 0 (Lay.get ⟨60, 0, live83⟩ 0) K fuel vs
noncomputable abbrev li83 (Λ : Lam AV) (K : AE → List AV → Option AV) (fuel : Nat) (vs : List AV) : Option AV := loopN (aexec tb Γ83 Λ ⟨60, 0, live83⟩ (lkW F83 1).2 2) 60 0 (Lay.get ⟨60, 0, live83⟩ 2) K fuel vs
noncomputable abbrev lc83 (Λ : Lam AV) (K : AE → List AV → Option AV) (fuel : Nat) (vs : List AV) : Option AV := loopN (aexec tb Γ83 Λ ⟨60, 0, live83⟩ (lkW F83 2).2 4) 60 0 (Lay.get ⟨60, 0, live83⟩ 4) K fuel vs
def seL : List Int → List Bool → Option (List Bool)
  | [], b => some b
  | p :: r, b => bif inB p b.length then seL r (b.set p.toNat true) else none
def dnF (l : List Term.D) : Nat → List Bool → Option (List Bool)
  | 0, b => some b
  | k + 1, b => bif inB k b.length then (bif bool1 b k then (bif inB k l.length then (match seL (partsL (tAt l k)) b with | some b' => dnF l k b' | none => none) else none) else dnF l k b) else none
def onB {ρ : Type} (r : Option (List Bool)) (K : List Bool → Option ρ) : Option ρ :=
  match r with
  | some b => K b
  | none => none
def coll : List Bool → Int → List Int
  | [], _ => []
  | x :: r, k => bif x then k :: coll r (k + 1) else coll r (k + 1)
def Λ83 (F : List Term.D → Int → List Bool → Option (List Bool)) : Lam AV := fun cur vs K =>
  match cur, vs with
  | 0, [.one (.sl false (.pair (.int .i64) (.pair (.int .i64) (.int .i64))) none l), .one (.hot 19 none), .one (.int .i64 k), .arr true .bool b] =>
    onB (F l k b) fun b' => K (.exit 0) (u0 l (-1) b')
  | 2, [.one (.sl false (.pair (.int .i64) (.pair (.int .i64) (.int .i64))) none l), .one (.hot 19 none), .one (.int .i64 k), .arr true .bool b, .one (.sl true (.int .i64) none ps), .one (.int .i64 n), .one (.int .i64 0)] =>
    bif decide (n = ps.length) && decide (n ≤ 9223372036854775807) then onB (seL ps b) fun b' => K (.exit 2) (u2 l k b' ps n n) else none
  | 4, [.arr true (.int .i64) o, .arr true .bool b, .one (.hot 19 none), .one (.int .i64 n), .one (.int .i64 0)] =>
    bif decide (n = b.length) && decide (n ≤ 9223372036854775807) && roomI (o.length + b.length) then K (.exit 4) (u4 (o ++ coll b 0) b n n) else none
  | _, _ => none
theorem step83i (l : List Term.D) (k : Int) (b : List Bool) (ps : List Int) (n j : Int) (Λ : Lam AV) (K : AE → List AV → Option AV) (fuel : Nat) : li83 Λ K (fuel + 1) (u2 l k b ps n j) =
    bif decide (j < n) then bif inB j ps.length then bif inB (iX ps j) b.length then li83 Λ K fuel (u2 l k (b.set (iX ps j).toNat true) ps n (IntKind.i64.wrap (j + 1))) else none else none else K (.exit 2) (u2 l k b ps n j) := by kernel_rfl
theorem step83c (o : List Int) (b : List Bool) (n j : Int) (Λ : Lam AV) (K : AE → List AV → Option AV) (fuel : Nat) : lc83 Λ K (fuel + 1) (u4 o b n j) =
    bif decide (j < n) then bif inB j b.length then bif bool1 b j then bif roomI (o.length + [j].length) then lc83 Λ K fuel (u4 (o ++ [j]) b n (IntKind.i64.wrap (j + 1))) else none
      else lc83 Λ K fuel (u4 o b n (IntKind.i64.wrap (j + 1))) else none else K (.exit 4) (u4 o b n j) := by kernel_rfl
theorem step83o (F : List Term.D → Int → List Bool → Option (List Bool)) (l : List Term.D) (k : Int) (b : List Bool) (K : AE → List AV → Option AV) (fuel : Nat) : lo83 (Λ83 F) K (fuel + 1) (u0 l k b) =
    bif decide (k ≥ 0) then bif inB k b.length then bif bool1 b k then bif inB k l.length then bif lenIL (partsL (tAt l k)) then
      onB (seL (partsL (tAt l k)) b) fun b' => lo83 (Λ83 F) K fuel (u0 l (IntKind.i64.wrap (k - 1)) b') else none else none
      else lo83 (Λ83 F) K fuel (u0 l (IntKind.i64.wrap (k - 1)) b) else none else K (.exit 0) (u0 l k b) := by kernel_rfl
def F83F (l : List Term.D) (k : Int) (b : List Bool) : Option (List Bool) := bif decide (-1 ≤ k) && decide (k ≤ 9223372036854775807) then dnF l (k + 1).toNat b else none
theorem loop83i : LoopP tb Γ83 (Λ83 F83F) ⟨60, 0, live83⟩ (lkW F83 1) := by
  intro vs K out h
  have hcur : (lkW F83 1).1 = 2 := by kernel_rfl
  rw [hcur] at h ⊢
  unfold Λ83 at h
  split at h
  · exact absurd (show (2 : Nat) = 0 by assumption) (by decide)
  · rename_i l k b ps n _
    cases hc : (decide (n = ps.length) && decide (n ≤ 9223372036854775807)) with
    | false => rw [hc] at h; cases h
    | true =>
      rw [hc] at h
      simp only [cond_true] at h
      simp only [Bool.and_eq_true, decide_eq_true_eq] at hc
      obtain ⟨rfl, hmax⟩ := hc
      have key : ∀ (m j : Nat) (b : List Bool), j + m = ps.length → onB (seL (ps.drop j) b) (fun b' => K (.exit 2) (u2 l k b' ps ps.length ps.length)) = some out → ∃ fuel, li83 (Λ83 F83F) K fuel (u2 l k b ps ps.length j) = some out := by
        intro m
        induction m with
        | zero =>
          intro j b hj h
          obtain rfl : j = ps.length := by omega
          rw [List.drop_length] at h
          exact ⟨1, by rw [step83i, nlt_dec]; exact h⟩
        | succ m ih =>
          intro j b hj h
          have hlt : j < ps.length := by omega
          rw [iX_cons hlt] at h
          simp only [seL] at h
          cases h1 : inB (iX ps j) b.length with
          | false => rw [h1] at h; cases h
          | true =>
            rw [h1] at h
            obtain ⟨fuel, hf⟩ := ih (j + 1) _ (by omega) h
            exact ⟨fuel + 1, by rw [step83i, lt_dec hlt, inB_lt hlt, h1, wrap64 (n := (j : Int) + 1) (by omega) (by omega)]; exact hf⟩
      exact key ps.length 0 b (by omega) h
  · exact absurd (show (2 : Nat) = 4 by assumption) (by decide)
  · cases h
theorem coll_drop {b : List Bool} {j : Nat} (h : j < b.length) (x : Int) : coll (b.drop j) x = bif bool1 b j then x :: coll (b.drop (j + 1)) (x + 1) else coll (b.drop (j + 1)) (x + 1) := by
  rw [List.drop_eq_getElem_cons h]
  simp [coll, bool1, h]
theorem roomI_le {a b : Nat} (h : a ≤ b) (hb : roomI b = true) : roomI a = true := by
  unfold roomI at *
  simp only [decide_eq_true_eq] at *
  omega
theorem loop83c : LoopP tb Γ83 (Λ83 F83F) ⟨60, 0, live83⟩ (lkW F83 2) := by
  intro vs K out h
  have hcur : (lkW F83 2).1 = 4 := by kernel_rfl
  rw [hcur] at h ⊢
  unfold Λ83 at h
  split at h
  · exact absurd (show (4 : Nat) = 0 by assumption) (by decide)
  · exact absurd (show (4 : Nat) = 2 by assumption) (by decide)
  · rename_i o b n _
    cases hc : (decide (n = b.length) && decide (n ≤ 9223372036854775807) && roomI (o.length + b.length)) with
    | false => rw [hc] at h; cases h
    | true =>
      rw [hc] at h
      simp only [cond_true] at h
      simp only [Bool.and_eq_true, decide_eq_true_eq] at hc
      obtain ⟨⟨rfl, hmax⟩, hroom⟩ := hc
      have key : ∀ (m j : Nat) (o : List Int), j + m = b.length → roomI (o.length + m) = true → K (.exit 4) (u4 (o ++ coll (b.drop j) j) b b.length b.length) = some out → ∃ fuel, lc83 (Λ83 F83F) K fuel (u4 o b b.length j) = some out := by
        intro m
        induction m with
        | zero =>
          intro j o hj _ h
          obtain rfl : j = b.length := by omega
          rw [List.drop_length] at h
          exact ⟨1, by rw [step83c, nlt_dec]; simpa [coll] using h⟩
        | succ m ih =>
          intro j o hj hr h
          have hlt : j < b.length := by omega
          rw [coll_drop hlt] at h
          have e1 : ((j : Nat) : Int) + 1 = ((j + 1 : Nat) : Int) := by omega
          cases h1 : bool1 b j with
          | false =>
            rw [h1, e1] at h
            obtain ⟨fuel, hf⟩ := ih (j + 1) o (by omega) (roomI_le (by omega) hr) h
            exact ⟨fuel + 1, by rw [step83c, lt_dec hlt, inB_lt hlt, h1, wrap64 (n := (j : Int) + 1) (by omega) (by omega)]; exact hf⟩
          | true =>
            rw [h1, e1] at h
            simp only [cond_true] at h
            obtain ⟨fuel, hf⟩ := ih (j + 1) (o ++ [(j : Int)]) (by omega) (by rw [List.length_append]; exact roomI_le (by simp; omega) hr) (by rw [List.append_assoc]; exact h)
            refine ⟨fuel + 1, ?_⟩
            rw [step83c, lt_dec hlt, inB_lt hlt, h1, show roomI (o.length + [(j : Int)].length) = true from roomI_le (by simp) hr, wrap64 (n := (j : Int) + 1) (by omega) (by omega)]
            exact hf
      exact key b.length 0 o (by omega) hroom h
  · cases h
theorem loop83o : LoopP tb Γ83 (Λ83 F83F) ⟨60, 0, live83⟩ (lkW F83 0) := by
  intro vs K out h
  have hcur : (lkW F83 0).1 = 0 := by kernel_rfl
  rw [hcur] at h ⊢
  unfold Λ83 at h
  split at h
  · rename_i l k b _
    unfold F83F at h
    cases hc : (decide (-1 ≤ k) && decide (k ≤ 9223372036854775807)) with
    | false => rw [hc] at h; cases h
    | true =>
      rw [hc] at h
      simp only [cond_true] at h
      simp only [Bool.and_eq_true, decide_eq_true_eq] at hc
      have key : ∀ (m : Nat) (k : Int) (b : List Bool), k = (m : Int) - 1 → k ≤ 9223372036854775807 → onB (dnF l m b) (fun b' => K (.exit 0) (u0 l (-1) b')) = some out → ∃ fuel, lo83 (Λ83 F83F) K fuel (u0 l k b) = some out := by
        intro m
        induction m with
        | zero =>
          intro k b hk _ h
          obtain rfl : k = -1 := by omega
          exact ⟨1, by rw [step83o]; exact h⟩
        | succ m ih =>
          intro k b hk hm h
          obtain rfl : k = m := by omega
          simp only [dnF] at h
          cases h1 : inB m b.length with
          | false => rw [h1] at h; cases h
          | true =>
            rw [h1] at h
            simp only [cond_true] at h
            have hw : IntKind.i64.wrap ((m : Int) - 1) = (m : Int) - 1 := wrap64 (by omega) (by omega)
            cases h2 : bool1 b m with
            | false =>
              rw [h2] at h
              obtain ⟨fuel, hf⟩ := ih ((m : Int) - 1) b rfl (by omega) h
              exact ⟨fuel + 1, by rw [step83o, decide_eq_true (show (m : Int) ≥ 0 by omega), h1, h2, hw]; exact hf⟩
            | true =>
              rw [h2] at h
              simp only [cond_true] at h
              cases h3 : inB m l.length with
              | false => rw [h3] at h; cases h
              | true =>
                rw [h3] at h
                simp only [cond_true] at h
                cases h4 : seL (partsL (tAt l m)) b with
                | none => rw [h4] at h; cases h
                | some b' =>
                  rw [h4] at h
                  obtain ⟨fuel, hf⟩ := ih ((m : Int) - 1) b' rfl (by omega) h
                  exact ⟨fuel + 1, by rw [step83o, decide_eq_true (show (m : Int) ≥ 0 by omega), h1, h2, h3, h4, lenI_parts, hw]; exact hf⟩
      exact key (k + 1).toNat k b (by omega) hc.2 h
  · exact absurd (show (0 : Nat) = 2 by assumption) (by decide)
  · exact absurd (show (0 : Nat) = 4 by assumption) (by decide)
  · cases h
theorem threeLoops {ρ : Type} [Same ρ] {Γ : Orc} {Λ : Lam ρ} {ms : Lay} {c : Code} {p0 p1 p2 : Nat × Code} (h : loopsOf 0 c = [p0, p1, p2]) (h0 : LoopP tb Γ Λ ms p0) (h1 : LoopP tb Γ Λ ms p1) (h2 : LoopP tb Γ Λ ms p2) : ∀ p ∈ loopsOf 0 c, LoopP tb Γ Λ ms p := by
  rw [h]; intro p hp
  rcases List.mem_cons.1 hp with rfl | hp
  · exact h0
  rcases List.mem_cons.1 hp with rfl | hp
  · exact h1
  · rw [List.mem_singleton.1 hp]; exact h2
def b0 (i : Int) : List Bool := (List.replicate (IntKind.i64.wrap (i + 1)).toNat Ty.bool.dflt).set i.toNat true
def mkOk (i : Int) : Bool := decide (0 ≤ IntKind.i64.wrap (i + 1)) && decide (IntKind.i64.wrap (i + 1) ≤ IntKind.i64.wrap (i + 1)) && decide ((1 : Int) * IntKind.i64.wrap (i + 1) ≤ 281474976710656)
def lenB (b : List Bool) : Bool := decide ((b.length : Int) = b.length) && decide ((b.length : Int) ≤ 9223372036854775807) && roomI (([] : List Int).length + b.length)
theorem r83 (l : List Term.D) (i : Int) : run Γ83 (Λ83 F83F) live83 F83 (encA [.v (.sl Term), .v I] (l, i)) [.sl true I] =
    bif !(thereI l i == 0) then some (rlE [] 1) else bif mkOk i then bif inB i (List.replicate (IntKind.i64.wrap (i + 1)).toNat Ty.bool.dflt).length then
      onB (F83F l i (b0 i)) fun b => bif lenB b then some (rlE ([] ++ coll b 0) 0) else none else none else none := by kernel_rfl
end Go.AM.Seat
