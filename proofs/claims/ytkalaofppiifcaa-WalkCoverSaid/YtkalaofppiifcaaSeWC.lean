/- The law WalkCover: its run. -/
import Derived.Test.YtkalaofppiifcaaSeOe
set_option linter.unusedVariables false
set_option linter.unusedSimpArgs false
set_option maxRecDepth 100000
namespace Go.AM.Seat
open Go Go.AM Go.Proofs
def Γ307 : Orc := orc [(N308, s308), (N322, s322), (N315, s315), (N323, s323)]
theorem Γ307ok : OrcOk Try.prog Γ307 := .cons g308 (.cons g322 (.cons g315 (.cons g323 (.nil _))))
abbrev live307 : List (Nat × Dir) := [(0, .keep), (3, .keep), (9, .keep), (10, .keep), (12, .keep), (13, .keep), (16, .keep), (56, .keep), (57, .keep), (58, .keep)]
def vs307 (h x : Int) (c : List Subset.D) (k f : Int) (o : Bool) (l : List Int) (n j : Int) : List AV := [.one (.int .i64 h), .one (.int .u64 x), .one (.bool true), .one (.sl true Subset none c), .one (.int .i64 k), .one (.int .i64 f), .one (.bool o), .one (.sl false U none l), .one (.int .i64 n), .one (.int .i64 j)]
noncomputable abbrev lo307 (Λ : Lam AV) (K : AE → List AV → Option AV) (fuel : Nat) (vs : List AV) : Option AV := loopN (aexec tb Γ307 Λ ⟨111, 0, [(0, live307)]⟩ (loop1 F307).2 0) 111 0 live307 K fuel vs
def Λ307 : Lam AV := fun _ vs K =>
  match vs with
  | [.one (.int .i64 h), .one (.int .u64 x), .one (.bool true), .one (.sl true (.pair (.int .u64) (.int .u64)) none c), .one (.int .i64 k), .one (.int .i64 f), .one (.bool false), .one (.sl false (.int .u64) none l), .one (.int .i64 n), .one (.int .i64 0)] =>
    bif decide (n = l.length) && decide (l.length ≤ 1000000) then K (.exit 0) (vs307 h x c k f (l.any fun y => y == x) l n n) else none
  | _ => none
theorem step307 (h x : Int) (c : List Subset.D) (k f : Int) (o : Bool) (l : List Int) (n j : Int) (Λ : Lam AV) (K : AE → List AV → Option AV) (fuel : Nat) : lo307 Λ K (fuel + 1) (vs307 h x c k f o l n j) =
    bif decide (j < n) then bif inB j l.length then lo307 Λ K fuel (vs307 h x c k f (bif o then true else bsAu l j == x) l n (IntKind.i64.wrap (j + 1))) else none else K (.exit 0) (vs307 h x c k f o l n j) := by kernel_rfl
theorem loop307 : LoopP tb Γ307 Λ307 ⟨111, 0, [(0, live307)]⟩ (loop1 F307) := by
  intro vs K out h
  have hcur : (loop1 F307).1 = 0 := by kernel_rfl
  rw [hcur] at h ⊢
  unfold Λ307 at h
  split at h
  · rename_i a x c k f l n
    cases hc : decide (n = l.length) && decide (l.length ≤ 1000000) with
    | false => rw [hc] at h; cases h
    | true =>
      rw [hc] at h
      simp only [Bool.and_eq_true, decide_eq_true_eq] at hc
      obtain ⟨rfl, hl⟩ := hc
      have key : ∀ (m j : Nat) (o : Bool), j + m = l.length → K (.exit 0) (vs307 a x c k f (o || (l.drop j).any fun y => y == x) l l.length l.length) = some out → ∃ fuel, lo307 Λ307 K fuel (vs307 a x c k f o l l.length j) = some out := by
        intro m
        induction m with
        | zero =>
          intro j o hj h
          obtain rfl : j = l.length := by omega
          rw [List.drop_length, List.any_nil, Bool.or_false] at h
          exact ⟨1, by rw [step307, nlt_dec]; exact h⟩
        | succ m ih =>
          intro j o hj h
          have hlt : j < l.length := by omega
          have e1 : bsAu l (j : Int) = l[j] := by unfold bsAu; simp [hlt]
          obtain ⟨fuel, hf⟩ := ih (j + 1) (bif o then true else bsAu l (j : Int) == x) (by omega) (by
            rw [List.drop_eq_getElem_cons hlt, List.any_cons, ← e1] at h
            rw [← h]
            congr 2
            cases o <;> simp)
          refine ⟨fuel + 1, ?_⟩
          rw [step307, lt_dec hlt, inB_lt hlt, wrap64 (n := (j : Int) + 1) (by omega) (by omega)]
          exact hf
      exact key l.length 0 false (by omega) (by rw [List.drop_zero, Bool.false_or]; exact h)
  · cases h
def oBw (b : Bool) : Option AV := some (.one (.bool b))
def withoutK (c : List Subset.D) (k : Int) : List Subset.D := c.take k.toNat ++ c.drop (IntKind.i64.wrap (k + 1)).toNat
def lastW (h x : Int) (c : List Subset.D) (k : Int) : Option AV := oBw (bif (firstI h x (withoutK c k)).2 == 4 then (firstI h x (withoutK c k)).1 == 0 else false)
def gW1 (c : List Subset.D) (k : Int) (r : Option AV) : Option AV := bif decide (0 ≤ k) && decide (k ≤ (c.length : Int)) then r else none
def gW2 (c : List Subset.D) (k : Int) (r : Option AV) : Option AV := bif decide ((c.take k.toNat).length * 16 ≤ 140737488355328) then r else none
def gW3 (c : List Subset.D) (k : Int) (r : Option AV) : Option AV := bif decide (0 ≤ IntKind.i64.wrap (k + 1)) && decide (IntKind.i64.wrap (k + 1) ≤ (c.length : Int)) then r else none
def gW4 (c : List Subset.D) (k : Int) (r : Option AV) : Option AV := bif decide (((c.take k.toNat).length + (c.drop (IntKind.i64.wrap (k + 1)).toNat).length) * 16 ≤ 140737488355328) then r else none
def rA (h x : Int) (c : List Subset.D) (k : Int) : Option AV := gW1 c k (gW2 c k (gW3 c k (gW4 c k (lastW h x c k))))
def rB (h x : Int) (c : List Subset.D) (k : Int) : Option AV := gW1 c k (gW3 c k (gW2 c k (gW4 c k (lastW h x c k))))
def rC (h x : Int) (c : List Subset.D) (k : Int) : Option AV := gW3 c k (gW1 c k (gW2 c k (gW4 c k (lastW h x c k))))
noncomputable def regW (h x : Int) (c : List Subset.D) (k : Int) : Option AV :=
  allSame [rA h x c k, rA h x c k, rA h x c k, rA h x c k, rA h x c k, rA h x c k, rB h x c k, rB h x c k, rB h x c k, rA h x c k, rA h x c k, rA h x c k, rB h x c k, rB h x c k, rB h x c k, rC h x c k, rC h x c k, rC h x c k]
noncomputable def lawW (h x : Int) (l : List Int) (c : List Subset.D) (f : Int × Int) : Option AV :=
  bif (leafI h x).2 != 0 then oBw (f.2 == 1) else bif decide ((l.length : Int) = l.length) && decide (l.length ≤ 1000000) then
    bif l.any (fun y => y == x) then oBw (f.2 == 4) else
    bif (bif (bif f.2 != 0 then true else decide (f.1 < 0)) then true else decide (f.1 ≥ (c.length : Int))) then oBw false else regW h x c f.1
  else none
theorem r307 (h k : Int) (l : List Int) (x : Int) : run Γ307 Λ307 [(0, live307)] F307 [.one (.int .i64 h), .one (.int .i64 k), .one (.sl false U none l), .one (.int .u64 x)] [] =
    bif decide ((l.length : Int) > 30) then oBw true else bif (coverI h k l).2 != 0 then oBw true else lawW h x l (coverI h k l).1 (firstI h x (coverI h k l).1) := by kernel_rfl
end Go.AM.Seat
