/- The seat: contracts: steiner.children, Hang. -/
import Derived.Test.YtkalaofppiifcaaSeCv8
set_option linter.unusedVariables false
set_option linter.unusedSimpArgs false
set_option maxRecDepth 100000
namespace Go.AM.Seat
open Go Go.AM Go.Proofs
theorem r412 (a : Int) (l hs : List Int) : runIO Γ412 Λ412 2 lay412 F412 [.one (.int .i64 a), .one (.sl false U none l), .one (.fn N413 [.ref 62 0])] [.own [.hot 63 none], .arr true U hs] 1 [] =
    bif (treeI a l).2 != 0 then some (.one (.int .i64 (treeI a l).2), [.own [.hot 1 none], .arr true U hs]) else
    bif Nat.beq N413 N413 && (decide (((treeI a l).1.length : Int) = (treeI a l).1.length) && (decide ((treeI a l).1.length ≤ 1000000) && (decide ((treeI a l).1.length ≤ 1000000) && decide (hs.length ≤ 1000000)))) then
      some (.one (.int .i64 0), [.own [.hot 1 none], .arr true U (hangG a (treeI a l).1 (treeI a l).1 hs)]) else none := by kernel_rfl
theorem treeG_len : ∀ (m : Nat) (lv out : List Int), (treeG m lv out).length ≤ m * lv.length + out.length := by
  intro m
  induction m with
  | zero => intro lv out; show out.length ≤ _; omega
  | succ m ih =>
    intro lv out
    have h := ih (upL lv) (lv ++ out)
    have hu := Nat.mul_le_mul_left m (upL_len lv)
    rw [List.length_append] at h
    rw [Nat.succ_mul]
    show (treeG m (upL lv) (lv ++ out)).length ≤ _
    omega
theorem treeI_len (a : Int) (l : List Int) : (treeI a l).1.length ≤ 100000 := by
  unfold treeI
  cases hc : lchkI a l != 0 with
  | true => exact Nat.zero_le _
  | false =>
    obtain ⟨hl, h3, _⟩ := lok_len (lchk_ok hc)
    have h4 := highB_iff.1 (chk_zero h3).1
    have h := treeG_len (a + 1).toNat (l.map fun x => (leafI a x).1) []
    rw [List.length_map] at h
    have h5 := Nat.mul_le_mul (show (a + 1).toNat ≤ 33 by omega) hl
    show (treeG (a + 1).toNat (l.map fun x => (leafI a x).1) []).length ≤ _
    simp only [List.length_nil] at h
    omega
def hangT (a : Int) (l : List Int) : List Int := bif (treeI a l).2 != 0 then [] else hangG a (treeI a l).1 (treeI a l).1 []
theorem io412 (a : Int) (l : List Int) : GoodIO Try.prog N412 [.one (.int .i64 a), .one (.sl false U none l), .one (.fn N413 [.ref 0 0])] 1 [.own [.hot 1 none], .arr true U []] (.one (.int .i64 (treeI a l).2)) [.own [.hot 1 none], .arr true U (hangT a l)] := by
  have hrun : runIO Γ412 Λ412 2 lay412 F412 [.one (.int .i64 a), .one (.sl false U none l), .one (.fn N413 [.ref 62 0])] [.own [.hot 63 none], .arr true U []] 1 [] = some (.one (.int .i64 (treeI a l).2), [.own [.hot 1 none], .arr true U (hangT a l)]) := by
    rw [r412]
    unfold hangT
    have hl := treeI_len a l
    cases hc : (treeI a l).2 != 0 with
    | true => rfl
    | false =>
      have h0 : (treeI a l).2 = 0 := by simpa using hc
      rw [decide_eq_true (show (treeI a l).1.length ≤ 1000000 by omega), decide_eq_true (show ([] : List Int).length ≤ 1000000 by simp), h0]
      simp only [decide_true, Bool.and_true, cond_false]
      rfl
  exact goodIO1 Γ412ok H412 rfl Λ412 2 lay412 (fun p hp => by
      have e : loopsOf 0 (body F412) = [lk412 0, lk412 1] := by kernel_rfl
      rw [e] at hp
      rcases List.mem_cons.1 hp with rfl | hp
      · exact loop412a
      rw [List.mem_singleton.1 hp]; exact loop412b) [.one (.int .i64 a), .one (.sl false U none l), .one (.fn N413 [.ref 0 0])] [.own [.hot 1 none], .arr true U []] 1
    (ys := [.one (.int .i64 a), .one (.sl false U none l), .one (.fn N413 [.ref 62 0])]) (hs := [.own [.hot 63 none], .arr true U []]) rfl rfl rfl (Nat.le_succ 1) (by show 3 ≤ _; decide) (Nat.le_refl 2) [] hrun (fun x hx => by cases hx; decide)
theorem io412n (a : Int) (l : List Int) : GoodIO Try.prog N412 [.one (.int .i64 a), .one (.sl false U none l), .one (.fn N413 [.ref 0 0])] 1 [.own [.nils]] (.one (.int .i64 (treeI a l).2)) [.own [.hot 1 none], .arr true U (hangT a l)] := by
  refine GoodIO.nilBox (io412 a l) fun w μ μ' ok vs h0 h => ?_
  cases h with
  | cons h1 t =>
  cases t with
  | cons h2 t =>
  cases t with
  | cons h3 t =>
  cases t
  refine .cons h1 (.cons h2 (.cons ?_ .nil))
  obtain ⟨cs, e, hc⟩ := (h3 : SVRel w μ ok (.fn N413 [.ref 0 0]) _)
  refine (⟨cs, e, ?_⟩ : SVRel w μ' ok (.fn N413 [.ref 0 0]) _)
  cases hc with
  | cons c1 t =>
    cases t
    refine .cons ?_ .nil
    obtain ⟨b, hb, hv⟩ := (c1 : ∃ b, (μ 0).b = some b ∧ _)
    exact ⟨b, by rw [h0]; exact hb, hv⟩
def s412 : Sp := .io fun a p gs => match a, p, gs with
  | [.one (.int .i64 a), .one (.sl false (.int .u64) none l), .one (.fn f [.ref 0 0])], 1, [.own [.nils]] => bif Nat.beq f N413 then some (true, .one (.int .i64 (treeI a l).2), [.own [.hot 1 none], .arr true U (hangT a l)]) else none
  | _, _, _ => none
theorem g412 : GoodS Try.prog N412 s412 := by
  refine GoodS.io (callable_of H412 (bd rfl) (by kernel_rfl)) fun a p gs r gs' hw1 hw2 h => ?_
  clear hw1 hw2
  unfold s412 at h
  split at h
  · rename_i a l f
    cases hf : Nat.beq f N413 with
    | false => rw [hf] at h; cases h
    | true =>
      rw [hf] at h
      obtain rfl := Nat.eq_of_beq_eq_true hf
      cases h
      exact io412n a l
  · cases h
def Γ387 : Orc := orcL 24 [(N400, s400L), (N412, s412)]
def hangI (a : Int) (l : List Int) : List Int × Int := bif (bif lchkI a l == 0 then (l.length : Int) == 0 else false) then ([1], 0) else (hangT a l, (treeI a l).2)
theorem r387 (a : Int) (l : List Int) : runG Γ387 noL 2 [] F387 [.one (.int .i64 a), .one (.sl false U none l)] [.sl true U, .id] =
    bif (bif lchkI a l == 0 then (l.length : Int) == 0 else false) then some (rlu [1] 0) else some (rlu (hangT a l) (treeI a l).2) := by kernel_rfl
def s387 : Sp := .fn [.v I, .v (.sl U)] fun x => (true, rlu (hangI x.1 x.2).1 (hangI x.1 x.2).2)
theorem g387 : GoodS Try.prog N387 s387 := by
  refine goodG (OrcOk.toL 24 (.cons g400L (.cons g412 (.nil _)))) H387 rfl (by kernel_rfl) noL 2 [] (noLoops (by kernel_rfl)) [.v I, .v (.sl U)] (by decide) [.sl true U, .id] _ (fun x r hw e => ?_) (fun x hx => by cases hx; decide)
  obtain ⟨a, l⟩ := x
  cases e
  refine (r387 a l).trans ?_
  show _ = some (rlu (hangI a l).1 (hangI a l).2)
  unfold hangI
  cases (bif lchkI a l == 0 then (l.length : Int) == 0 else false) <;> rfl
end Go.AM.Seat
