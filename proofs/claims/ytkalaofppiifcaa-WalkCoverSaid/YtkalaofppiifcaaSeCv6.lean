/- The seat: contracts: steiner.tree. -/
import Derived.Test.YtkalaofppiifcaaSeCv5
set_option linter.unusedVariables false
set_option linter.unusedSimpArgs false
set_option maxRecDepth 100000
namespace Go.AM.Seat
open Go Go.AM Go.Proofs
/-- Loops that turn a row place by place. -/
theorem mapLoop {ρ : Type} {n : Nat} {g : Nat → Int → Int} {F : Nat → List Int → Int → Option ρ} {K : List Int → Option ρ} (hmax : (n : Int) ≤ 9223372036854775807)
    (h1 : ∀ fuel lv, lv.length = n → F (fuel + 1) lv (n : Int) = K lv) (h2 : ∀ fuel lv (j : Nat), lv.length = n → j < n → F (fuel + 1) lv (j : Int) = F fuel (lv.set j (g j (lv.getD j 0))) ((j + 1 : Nat) : Int))
    {lv : List Int} (hl : lv.length = n) {out : ρ} (h : K (lv.mapIdx g) = some out) : ∃ fuel, F fuel lv 0 = some out := by
  have key : ∀ (m j : Nat) (lv' : List Int), j + m = n → lv' = lv.mapIdx (fun k x => if k < j then g k x else x) → ∃ fuel, F fuel lv' (j : Int) = some out := by
    intro m
    induction m with
    | zero =>
      intro j lv' hj e
      obtain rfl : j = n := by omega
      refine ⟨1, (h1 0 lv' (by rw [e, List.length_mapIdx, hl])).trans ?_⟩
      rw [← h, e]
      congr 1
      apply List.ext_getElem?
      intro k
      rw [List.getElem?_mapIdx, List.getElem?_mapIdx]
      rcases Nat.lt_or_ge k lv.length with hk | hk
      · rw [List.getElem?_eq_getElem hk]
        simp only [Option.map_some]
        rw [if_pos (by omega)]
      · rw [List.getElem?_eq_none hk]; rfl
    | succ m ih =>
      intro j lv' hj e
      have hlen : lv'.length = n := by rw [e, List.length_mapIdx, hl]
      obtain ⟨fuel, hf⟩ := ih (j + 1) (lv'.set j (g j (lv'.getD j 0))) (by omega) (by
        apply List.ext_getElem?
        intro k
        rw [List.getElem?_set, List.getElem?_mapIdx]
        have hj' : j < lv.length := by omega
        split
        · rename_i ejk
          subst ejk
          rw [if_pos (by omega), List.getElem?_eq_getElem hj', List.getD_eq_getElem?_getD, e, List.getElem?_mapIdx, List.getElem?_eq_getElem hj']
          simp
        · rename_i ejk
          rw [e, List.getElem?_mapIdx]
          rcases Nat.lt_or_ge k lv.length with hk | hk
          · rw [List.getElem?_eq_getElem hk]
            simp only [Option.map_some]
            congr 1
            by_cases hkj : k < j
            · rw [if_pos hkj, if_pos (by omega)]
            · rw [if_neg hkj, if_neg (by omega)]
          · rw [List.getElem?_eq_none hk]; rfl)
      exact ⟨fuel + 1, (h2 fuel lv' j hlen (by omega)).trans hf⟩
  exact key n 0 lv (by omega) (by
    apply List.ext_getElem?
    intro k
    rw [List.getElem?_mapIdx]
    cases lv[k]? <;> simp)
def shr1 (x : Int) : Int := x.fdiv (2 ^ min (Int.toNat 1) IntKind.u64.bits)
def Γ427 : Orc := orcF2 none [(N400, s400L), (N323, s323), (N439, s439), (N440, s440)]
theorem Γ427ok : OrcOk Try.prog Γ427 := OrcOk.toF none (.cons g400L (.cons g323 (.cons g439 (.cons g440 (.nil _)))))
abbrev live427a : List (Nat × Dir) := [(0, .keep), (4, .keep), (5, .keep), (7, .arr U), (23, .keep), (24, .keep), (25, .keep)]
abbrev live427b : List (Nat × Dir) := [(7, .arr U), (12, .arr U), (45, .keep), (46, .keep)]
abbrev live427c : List (Nat × Dir) := [(7, .arr U), (12, .arr U), (45, .keep), (46, .keep), (53, .keep), (54, .keep)]
abbrev lay427 : List (Nat × List (Nat × Dir)) := [(0, live427a), (2, live427b), (4, live427c)]
def vs427a (a : Int) (lv l : List Int) (n i : Int) : List AV := [.one (.int .i64 a), .one .nils, .one (.int .i64 0), .arr true U lv, .one (.sl false U none l), .one (.int .i64 n), .one (.int .i64 i)]
def vs427b (lv out : List Int) (n i : Int) : List AV := [.arr true U lv, .arr true U out, .one (.int .i64 n), .one (.int .i64 i)]
def vs427c (lv out : List Int) (n i : Int) (m j : Int) : List AV := [.arr true U lv, .arr true U out, .one (.int .i64 n), .one (.int .i64 i), .one (.int .i64 m), .one (.int .i64 j)]
noncomputable abbrev lk427 (k : Nat) : Nat × Code := (loopsOf 0 (body F427)).getD k (0, .skip)
noncomputable abbrev lo427a (Λ : Lam AV) (K : AE → List AV → Option AV) (fuel : Nat) (vs : List AV) : Option AV := loopN (aexec tb Γ427 Λ ⟨68, 0, lay427⟩ (lk427 0).2 0) 68 0 live427a K fuel vs
noncomputable abbrev lo427b (Λ : Lam AV) (K : AE → List AV → Option AV) (fuel : Nat) (vs : List AV) : Option AV := loopN (aexec tb Γ427 Λ ⟨68, 0, lay427⟩ (lk427 1).2 2) 68 0 live427b K fuel vs
noncomputable abbrev lo427c (Λ : Lam AV) (K : AE → List AV → Option AV) (fuel : Nat) (vs : List AV) : Option AV := loopN (aexec tb Γ427 Λ ⟨68, 0, lay427⟩ (lk427 2).2 4) 68 0 live427c K fuel vs
/-- The levels from one on, upwards; and all nodes of them. -/
def upL (lv : List Int) : List Int := compactL (lv.map shr1)
def lvG : Nat → List Int → List Int
  | 0, lv => lv
  | m + 1, lv => lvG m (upL lv)
def treeG : Nat → List Int → List Int → List Int
  | 0, _, out => out
  | m + 1, lv, out => treeG m (upL lv) (lv ++ out)
def gd427a (a : Int) (lv l : List Int) (n : Int) : Bool := decide (n = l.length) && (decide (lv.length = l.length) && (decide (n ≤ 1000000) && l.all fun x => (leafI a x).2 == 0))
def gd427b (lv out : List Int) (n : Int) : Bool := decide (0 ≤ n) && (decide (n ≤ 64) && (decide (lv.length ≤ 1024) && decide (out.length = 0)))
def Λ427a : Lam AV := fun _ vs K =>
  match vs with
  | [.one (.int .i64 a), .one .nils, .one (.int .i64 0), .arr true (.int .u64) lv, .one (.sl false (.int .u64) none l), .one (.int .i64 n), .one (.int .i64 0)] =>
    bif gd427a a lv l n then K (.exit 0) (vs427a a (l.map fun x => (leafI a x).1) l n n) else none
  | _ => none
def Λ427b : Lam AV := fun _ vs K =>
  match vs with
  | [.arr true (.int .u64) lv, .arr true (.int .u64) out, .one (.int .i64 n), .one (.int .i64 0)] =>
    bif gd427b lv out n then K (.exit 2) (vs427b (lvG n.toNat lv) (treeG n.toNat lv []) n n) else none
  | _ => none
def Λ427c : Lam AV := fun _ vs K =>
  match vs with
  | [.arr true (.int .u64) lv, .arr true (.int .u64) out, .one (.int .i64 n), .one (.int .i64 i), .one (.int .i64 m), .one (.int .i64 0)] =>
    bif decide (m = lv.length) && decide (lv.length ≤ 1000000) then K (.exit 4) (vs427c (lv.map shr1) out n i m m) else none
  | _ => none
def Λ427 : Lam AV := fun cur vs K => match cur with | 0 => Λ427a cur vs K | 2 => Λ427b cur vs K | 4 => Λ427c cur vs K | _ => none
theorem step427a (a : Int) (lv l : List Int) (n i : Int) (Λ : Lam AV) (K : AE → List AV → Option AV) (fuel : Nat) : lo427a Λ K (fuel + 1) (vs427a a lv l n i) =
    bif decide (i < n) then bif inB i l.length then bif (leafI a (bsAu l i)).2 != 0 then K .ret [.one (.int .i64 a), .one .nils, .one (.int .i64 (leafI a (bsAu l i)).2), .arr true U lv, .one (.sl false U none l), .one (.int .i64 n), .one (.int .i64 i)] else
      bif inB i lv.length then lo427a Λ K fuel (vs427a a (lv.set i.toNat (leafI a (bsAu l i)).1) l n (IntKind.i64.wrap (i + 1))) else none else none else K (.exit 0) (vs427a a lv l n i) := by kernel_rfl
theorem step427c (lv out : List Int) (n i m j : Int) (Λ : Lam AV) (K : AE → List AV → Option AV) (fuel : Nat) : lo427c Λ K (fuel + 1) (vs427c lv out n i m j) =
    bif decide (j < m) then bif inB j lv.length then bif inB j lv.length then lo427c Λ K fuel (vs427c (lv.set j.toNat (shr1 (lv.getD j.toNat (U : Ty).dflt))) out n i m (IntKind.i64.wrap (j + 1))) else none else none else K (.exit 4) (vs427c lv out n i m j) := by kernel_rfl
theorem step427b (lv out : List Int) (n i : Int) (K : AE → List AV → Option AV) (fuel : Nat) : lo427b Λ427 K (fuel + 1) (vs427b lv out n i) =
    bif decide (i < n) then bif decide (lv.length + out.length ≤ 1000000) then bif decide ((lv.length : Int) = lv.length) && decide (lv.length ≤ 1000000) then bif decide ((lv.map shr1).length ≤ 1000000) then
      lo427b Λ427 K fuel (vs427b (upL lv) (lv ++ out) n (IntKind.i64.wrap (i + 1))) else none else none else none else K (.exit 2) (vs427b lv out n i) := by kernel_rfl
theorem loop427a : LoopP tb Γ427 Λ427 ⟨68, 0, lay427⟩ (lk427 0) := by
  intro vs K out h
  have hcur : (lk427 0).1 = 0 := by kernel_rfl
  rw [hcur] at h ⊢
  replace h : Λ427a 0 vs K = some out := h
  unfold Λ427a at h
  split at h
  · rename_i a lv l n
    cases hc : gd427a a lv l n with
    | false => rw [hc] at h; cases h
    | true =>
      rw [hc] at h
      unfold gd427a at hc
      simp only [Bool.and_eq_true, decide_eq_true_eq, List.all_eq_true] at hc
      obtain ⟨rfl, h1, h2, h3⟩ := hc
      refine mapLoop (n := l.length) (g := fun k _ => (leafI a (bsAu l k)).1) (F := fun fuel lv i => lo427a Λ427 K fuel (vs427a a lv l l.length i)) (K := fun lv => K (.exit 0) (vs427a a lv l l.length l.length)) (by omega)
        (fun fuel lv' hl => ?_) (fun fuel lv' j hl hj => ?_) h1 (Eq.trans ?_ h)
      · rw [step427a, nlt_dec]; rfl
      · have e0 : ((leafI a (bsAu l j)).2 != 0) = false := by
          have := h3 l[j] (List.getElem_mem hj)
          have e1 : bsAu l (j : Int) = l[j] := by unfold bsAu; simp [hj]
          rw [e1]; unfold bne; rw [this]; rfl
        rw [step427a, lt_dec hj, inB_lt hj, e0, inB_lt (show j < lv'.length by omega), wrap64 (n := (j : Int) + 1) (by omega) (by omega)]
        rfl
      · show K _ (vs427a a (lv.mapIdx fun k _ => (leafI a (bsAu l k)).1) l l.length l.length) = _
        have e : (lv.mapIdx fun k _ => (leafI a (bsAu l k)).1) = l.map fun x => (leafI a x).1 := by
          apply List.ext_getElem (by simp [h1])
          intro k hk1 hk2
          have hk : k < l.length := by simpa using hk2
          have e1 : bsAu l (k : Int) = l[k] := by unfold bsAu; simp [hk]
          simp [e1]
        rw [e]
        rfl
  · cases h
theorem loop427c : LoopP tb Γ427 Λ427 ⟨68, 0, lay427⟩ (lk427 2) := by
  intro vs K out h
  have hcur : (lk427 2).1 = 4 := by kernel_rfl
  rw [hcur] at h ⊢
  replace h : Λ427c 4 vs K = some out := h
  unfold Λ427c at h
  split at h
  · rename_i lv ot n i m
    cases hc : decide (m = lv.length) && decide (lv.length ≤ 1000000) with
    | false => rw [hc] at h; cases h
    | true =>
      rw [hc] at h
      simp only [Bool.and_eq_true, decide_eq_true_eq] at hc
      obtain ⟨rfl, h2⟩ := hc
      refine mapLoop (n := lv.length) (g := fun _ x => shr1 x) (F := fun fuel lv' j => lo427c Λ427 K fuel (vs427c lv' ot n i lv.length j)) (K := fun lv' => K (.exit 4) (vs427c lv' ot n i lv.length lv.length)) (by omega)
        (fun fuel lv' hl => ?_) (fun fuel lv' j hl hj => ?_) rfl (Eq.trans ?_ h)
      · rw [step427c, nlt_dec]; rfl
      · rw [step427c, lt_dec hj, inB_lt (show j < lv'.length by omega), wrap64 (n := (j : Int) + 1) (by omega) (by omega)]
        rfl
      · show K _ (vs427c (lv.mapIdx fun _ x => shr1 x) ot n i lv.length lv.length) = _
        have e : (lv.mapIdx fun _ x => shr1 x) = lv.map shr1 := by
          apply List.ext_getElem (by simp)
          intro k hk1 hk2
          simp
        rw [e]
        rfl
  · cases h
theorem upL_len (lv : List Int) : (upL lv).length ≤ lv.length := by
  unfold upL
  have := compactL_len (lv.map shr1)
  rw [List.length_map] at this
  exact this
theorem lvG_succ : ∀ (m : Nat) (lv : List Int), lvG (m + 1) lv = lvG m (upL lv) := fun _ _ => rfl
theorem loop427b : LoopP tb Γ427 Λ427 ⟨68, 0, lay427⟩ (lk427 1) := by
  intro vs K out h
  have hcur : (lk427 1).1 = 2 := by kernel_rfl
  rw [hcur] at h ⊢
  replace h : Λ427b 2 vs K = some out := h
  unfold Λ427b at h
  split at h
  · rename_i lv ot n
    cases hc : gd427b lv ot n with
    | false => rw [hc] at h; cases h
    | true =>
      rw [hc] at h
      unfold gd427b at hc
      simp only [Bool.and_eq_true, decide_eq_true_eq] at hc
      obtain ⟨h0, h1, h2, h3⟩ := hc
      obtain rfl : ot = [] := List.length_eq_zero_iff.1 h3
      obtain ⟨n, rfl⟩ : ∃ k : Nat, (k : Int) = n := ⟨n.toNat, by omega⟩
      rw [Int.toNat_natCast] at h
      have key : ∀ (m j : Nat) (lv ot : List Int), j + m = n → lv.length ≤ 1024 → ot.length ≤ 1024 * j → K (.exit 2) (vs427b (lvG m lv) (treeG m lv ot) n n) = some out → ∃ fuel, lo427b Λ427 K fuel (vs427b lv ot n j) = some out := by
        intro m
        induction m with
        | zero =>
          intro j lv ot hj _ _ h
          obtain rfl : j = n := by omega
          exact ⟨1, by rw [step427b, nlt_dec]; exact h⟩
        | succ m ih =>
          intro j lv ot hj hl ho h
          have hu := upL_len lv
          obtain ⟨fuel, hf⟩ := ih (j + 1) (upL lv) (lv ++ ot) (by omega) (by omega) (by rw [List.length_append]; omega) h
          refine ⟨fuel + 1, ?_⟩
          rw [step427b, lt_dec (show j < n by omega), decide_eq_true (show lv.length + ot.length ≤ 1000000 by omega), decide_eq_true (show lv.length ≤ 1000000 by omega), decide_eq_true (show (lv.map shr1).length ≤ 1000000 by rw [List.length_map]; omega),
            wrap64 (n := (j : Int) + 1) (by omega) (by omega)]
          simp only [decide_true, Bool.and_self, cond_true]
          exact hf
      exact key n 0 lv [] (by omega) h2 (by simp) h
  · cases h
def treeL (a : Int) (l : List Int) : List Int := treeG (a + 1).toNat (l.map fun x => (leafI a x).1) []
def treeI (a : Int) (l : List Int) : List Int × Int := bif lchkI a l != 0 then ([], lchkI a l) else (treeL a l, 0)
theorem r427 (a : Int) (l : List Int) : run Γ427 Λ427 lay427 F427 [.one (.int .i64 a), .one (.sl false U none l)] [.sl true U, .id] =
    bif lchkI a l != 0 then some (rlu [] (lchkI a l)) else bif decide (0 ≤ (l.length : Int)) && decide ((l.length : Int) ≤ l.length) && decide ((8 : Int) * l.length ≤ 281474976710656) then
      bif gd427a a (List.replicate l.length 0) l l.length then bif gd427b (l.map fun x => (leafI a x).1) [] (IntKind.i64.wrap (a + 1)) then
        some (rlu (treeG (IntKind.i64.wrap (a + 1)).toNat (l.map fun x => (leafI a x).1) []) 0) else none else none else none := by kernel_rfl
def s427 : Sp := .fn [.v I, .v (.sl U)] fun x => (true, rlu (treeI x.1 x.2).1 (treeI x.1 x.2).2)
theorem g427 : GoodS Try.prog N427 s427 := by
  refine good Γ427ok H427 rfl (by kernel_rfl) Λ427 lay427 (fun p hp => ?_) [.v I, .v (.sl U)] (by decide) [.sl true U, .id] _ fun x r hw e => ?_
  · have e : loopsOf 0 (body F427) = [lk427 0, lk427 1, lk427 2] := by kernel_rfl
    rw [e] at hp
    rcases List.mem_cons.1 hp with rfl | hp
    · exact loop427a
    rcases List.mem_cons.1 hp with rfl | hp
    · exact loop427b
    rw [List.mem_singleton.1 hp]; exact loop427c
  · obtain ⟨a, l⟩ := x
    cases e
    refine (r427 a l).trans ?_
    show _ = some (rlu (treeI a l).1 (treeI a l).2)
    unfold treeI
    cases hc : lchkI a l != 0 with
    | true => rfl
    | false =>
      have h2 := lchk_ok hc
      obtain ⟨hl, h3, _⟩ := lok_len h2
      have h4 := highB_iff.1 (chk_zero h3).1
      have g1 : gd427a a (List.replicate l.length 0) l l.length = true := by
        unfold gd427a
        simp only [Bool.and_eq_true, decide_eq_true_eq, List.all_eq_true]
        exact ⟨trivial, by simp, by omega, lok_leaf h2⟩
      have g2 : gd427b (l.map fun x => (leafI a x).1) [] (a + 1) = true := by
        unfold gd427b
        simp only [Bool.and_eq_true, decide_eq_true_eq]
        exact ⟨by omega, by omega, by rw [List.length_map]; exact hl, rfl⟩
      rw [wrap64 (n := a + 1) (by omega) (by omega), g1, g2, decide_eq_true (show 0 ≤ (l.length : Int) by omega), decide_eq_true (show (l.length : Int) ≤ l.length by omega), decide_eq_true (show (8 : Int) * l.length ≤ 281474976710656 by omega)]
      rfl
end Go.AM.Seat
