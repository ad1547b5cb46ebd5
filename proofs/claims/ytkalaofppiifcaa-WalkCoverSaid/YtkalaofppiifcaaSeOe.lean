/- The seat: contracts: slices.AppendSeq, Collect, SortedFunc, Values of subsets; layer.Order. -/
import Derived.Test.YtkalaofppiifcaaSeOd
import Derived.Test.YtkalaofppiifcaaSeCw4
import Derived.Test.YtkalaofppiifcaaAmNil
set_option linter.unusedVariables false
set_option linter.unusedSimpArgs false
set_option maxRecDepth 100000
namespace Go.AM.Seat
open Go Go.AM Go.Proofs
theorem cellsQ_at : ∀ (l : List (Int × Int)) (j : Nat) (h : j < l.length) (q : Nat), q < 2 → (cellsQ l)[j * 2 + q]? = some (encQ l[j])[q]! := by
  intro l
  induction l with
  | nil => intro j h; simp at h
  | cons x l ih =>
    intro j h q hq
    have e : cellsQ (x :: l) = .int .u64 x.1 :: .int .u64 x.2 :: cellsQ l := rfl
    rw [e]
    cases j with
    | zero =>
      rcases Nat.lt_or_ge q 1 with h1 | h1
      · obtain rfl : q = 0 := by omega
        rfl
      · obtain rfl : q = 1 := by omega
        rfl
    | succ j =>
      rw [show (j + 1) * 2 + q = (j * 2 + q) + 1 + 1 by omega, List.getElem?_cons_succ, List.getElem?_cons_succ]
      exact ih j (by simpa using h) q hq
theorem io438 (l : List Subset.D) (hl : l.length ≤ 1000000) : GoodIO Try.prog N438 [.one .nils, .one (.fn N420 [.ref 0 0])] 1 [.own [.sl false Subset none l]] (.one (.hot 1 none)) [.own [.sl false Subset none l], .arr true Subset l] := by
  intro w okA vs μ hA hargs hO
  cases hargs with
  | @cons x v xs vs hx hxs =>
  cases hxs with
  | @cons x2 v2 xs2 vs2 hx2 hxs2 =>
  cases hxs2
  have e1 : v = .slice none 0 0 := hx
  subst e1
  obtain ⟨cs2, rfl, hcs2⟩ := (hx2 : SVRel w μ (argOK okA) (.fn N420 [.ref 0 0]) v2)
  have hown0 : OwnRel w μ (argOK okA) 0 (.own [.sl false Subset none l]) := hO.own 0
  obtain ⟨b0, c0, E0, hb0, hblk0, hc0⟩ := hown0
  obtain ⟨p, rfl, hp⟩ : ∃ p, cs2 = [p] ∧ p = Go.Value.pointer (some ⟨b0, 0, none⟩) := by
    cases hcs2 with
    | @cons y q ys qs h1 t =>
    cases t
    obtain ⟨b, hb, hv⟩ := (h1 : ∃ b, (μ 0).b = some b ∧ q = Go.Value.pointer (some ⟨b, 0, none⟩))
    rw [hb0] at hb; cases hb
    exact ⟨q, rfl, hv⟩
  subst hp
  obtain ⟨sv, hsv, hrel⟩ : ∃ sv, c0.toList = [sv] ∧ SVRel w μ (argOK okA) (.sl false Subset none l) sv := by
    generalize c0.toList = cl at hc0
    cases hc0 with
    | cons a t => cases t; exact ⟨_, rfl, a⟩
  have hcell : w.cell? ⟨b0, 0, none⟩ = some sv := by
    show (match w.heap[b0]? with | some (.cells c _ _) => if (none : Option Nat).isSome then none else c[0]? | _ => none) = _
    rw [hblk0]
    show c0[0]? = some sv
    rw [← Array.getElem?_toList, hsv]; rfl
  have hrel0 : SVRel0 w μ (argOK okA) (.sl false Subset none l) sv := hrel
  obtain ⟨⟨A, c, e2, hc1, hc2, hc3⟩, _⟩ := (hrel : TRel w (argOK okA false) (.sl Subset) l [sv] ∧ nlRel none sv)
  have e2 : sv = .slice A l.length c := by simpa using e2
  have hS : SubsAt w.heap.size w sv l := by
    by_cases hle : l = []
    · exact .inl ⟨A, c, by rw [e2, hle]; rfl, hle⟩
    · rcases hc3 with ⟨_, h, _⟩ | ⟨b, o, ⟨sp, e3, h3⟩, h4, h5⟩
      · exact absurd h hle
      · have h3 := h3 hle
        subst h3
        refine .inr ⟨b, o, c, by rw [e2, e3], hA.1.lt b (h4 hle).2, fun j hj => ?_⟩
        obtain ⟨cs, t1, t2⟩ := h5 j hj
        obtain ⟨u, v, rfl, ⟨rfl, _⟩, ⟨rfl, _⟩⟩ := (t1 : ∃ u v, cs = u ++ v ∧ _ ∧ _)
        have es : (Ty.pair (.int IntKind.u64) (.int IntKind.u64)).size = 2 := rfl
        have q0 := t2 0 (by simp)
        have q1 := t2 1 (by simp)
        rw [es] at q0 q1
        exact ⟨q0, q1⟩
  have hU : ∀ x ∈ l, IntKind.u64.has x.1 ∧ IntKind.u64.has x.2 := fun x hx => by
    obtain ⟨j, hj, rfl⟩ := List.getElem_of_mem hx
    rcases hc3 with ⟨_, h, _⟩ | ⟨b, o, _, h4, h5⟩
    · rw [h] at hj; simp at hj
    · obtain ⟨cs, t1, t2⟩ := h5 j hj
      obtain ⟨u, v, rfl, ⟨_, a⟩, ⟨_, b⟩⟩ := (t1 : ∃ u v, cs = u ++ v ∧ _ ∧ _)
      exact ⟨a, b⟩
  have hcon := callsIn_wide.1 (app_in Fence.wide 4 trivial trivial rfl (Nat.le_refl 4) b0 sv l hl w hcell hS)
  refine hcon.mono fun e W' hh => ?_
  obtain ⟨v, rfl, hrow, hB⟩ := hh
  have hblkW : ∀ k, k < w.heap.size → W'.heap[k]? = w.heap[k]? := hB.block
  have hb0l : b0 < w.heap.size := (hO.blk 0 b0 rfl hb0).1
  have hres : ∀ fr b, argOK okA fr b → resOK w W' okA fr b := fun fr b h => .inr h
  have hT : ∀ b, argOK okA true b → argOK okA false b := fun b h => absurd h.1 (by simp)
  have hlt : ∀ fr b, argOK okA fr b → b < w.heap.size := fun fr b h => hA.1.lt b h.2
  obtain ⟨L1, hL1, hL2, hL3, hL4⟩ : ∃ L1 : Loc, v = slv L1 none ∧ OwnRel W' (fun k => if k = 1 then L1 else μ k) (argOK okA) 1 (.arr true Subset l) ∧ (∀ b, L1.b = some b → w.heap.size ≤ b ∧ b < W'.heap.size) ∧ L1.len ≤ 9223372036854775807 := by
    obtain ⟨hcl, ⟨rfl, h0⟩ | ⟨g, cap, cur, rfl, hg, hgb, hn, hcap, hcs, htk⟩⟩ := hrow
    · have hle : l = [] := List.length_eq_zero_iff.1 h0
      refine ⟨⟨none, 0, 0⟩, rfl, ⟨by rw [hle]; rfl, Nat.le_refl _, by show (0 : Nat) ≤ 9223372036854775807; omega, .inl ⟨rfl, hle, rfl⟩⟩, (fun b hb => nomatch hb), by show (0 : Nat) ≤ 9223372036854775807; omega⟩
    · have hmx : cap ≤ 9223372036854775807 := hcap
      refine ⟨⟨some g, l.length, cap⟩, rfl, ⟨rfl, hn, hmx, .inr ⟨g, cur, _, rfl, hgb, by show cap * 2 ≤ _; omega, fun j hj => ?_⟩⟩, fun b hb => ?_, by show l.length ≤ 9223372036854775807; omega⟩
      · refine ⟨encQ l[j], ⟨[.int .u64 l[j].1], [.int .u64 l[j].2], rfl, ⟨rfl, (hU _ (List.getElem_mem hj)).1⟩, ⟨rfl, (hU _ (List.getElem_mem hj)).2⟩⟩, fun q hq => ?_⟩
        have hq : q < 2 := hq
        have h9 := cellsQ_at l j hj q hq
        rw [← htk, List.getElem?_take_of_lt (by omega), Array.getElem?_toList] at h9
        show cur[j * 2 + q]? = _
        rw [h9, getElem!_pos _ q (show q < (encQ l[j]).length from hq)]
      · cases hb
        exact ⟨hg, (Array.getElem?_eq_some_iff.1 hgb).1⟩
  refine ⟨v, rfl, ⟨hB.os, hB.tape, hB.output, hB.size, fun k hk _ => hblkW k hk⟩, argOK okA, fun k => if k = 1 then L1 else μ k, hres, hT, ?_, ⟨fun k => ?_, fun k b hk hb => ?_, fun j k b hj hk h1 h2 => ?_⟩, fun k b hk hb => ?_, fun k hk => ?_⟩
  · exact (⟨hL1, fun m h => (by cases h), hL4⟩ : SVRel0 W' (fun k => if k = 1 then L1 else μ k) (argOK okA) (.hot 1 none) v)
  · match k with
    | 0 =>
      refine ⟨b0, c0, E0, hb0, (hblkW b0 hb0l).trans hblk0, ?_⟩
      rw [hsv]
      refine .cons ?_ .nil
      exact (⟨TRel.mono (fun b hb => hblkW b (hlt false b hb)) (fun b hb => hb) hrel0.1, hrel0.2⟩ : SVRel0 W' (fun k => if k = 1 then L1 else μ k) (argOK okA) (.sl false Subset none l) sv)
    | 1 => exact hL2
    | k + 2 => unfold ownAt; simp [OwnRel]
  · match k with
    | 0 =>
      obtain ⟨h1, h2⟩ := hO.blk 0 b rfl hb
      exact ⟨Nat.lt_of_lt_of_le h1 hB.size, h2⟩
    | 1 =>
      obtain ⟨h1, h2⟩ := hL3 b hb
      exact ⟨h2, fun h => by have := hlt false b h; omega⟩
    | k + 2 => unfold ownAt at hk; simp [AV.isOwner] at hk
  · match j, k with
    | 0, 0 => rfl
    | 1, 1 => rfl
    | 0, 1 =>
      have a := (hO.blk 0 b rfl h1).1
      have c := (hL3 b h2).1
      omega
    | 1, 0 =>
      have a := (hO.blk 0 b rfl h2).1
      have c := (hL3 b h1).1
      omega
    | k + 2, _ => unfold ownAt at hj; simp [AV.isOwner] at hj
    | _, k + 2 => unfold ownAt at hk; simp [AV.isOwner] at hk
  · match k with
    | 0 => exact .inr ⟨0, rfl, hb⟩
    | 1 => exact .inl (hL3 b hb).1
    | k + 2 => unfold ownAt at hk; simp [AV.isOwner] at hk
  · obtain rfl : k = 0 := by omega
    rfl
def s438 : Sp := .io fun a p gs => match a, p, gs with
  | [.one .nils, .one (.fn f [.ref 0 0])], 1, [.own [.sl false (.pair (.int .u64) (.int .u64)) none l]] => some (Nat.beq f N420 && decide (l.length ≤ 1000000), .one (.hot 1 none), [.own [.sl false Subset none l], .arr true Subset l])
  | _, _, _ => none
theorem g438 : GoodS Try.prog N438 s438 := by
  refine GoodS.io (callable_of H438 (bd rfl) (by kernel_rfl)) fun a p gs r gs' hw1 hw2 h => ?_
  clear hw1 hw2
  unfold s438 at h
  split at h
  · rename_i f l
    simp only [Option.some.injEq, Prod.mk.injEq, Bool.and_eq_true, decide_eq_true_eq] at h
    obtain ⟨⟨hf, hl⟩, rfl, rfl⟩ := h
    obtain rfl := Nat.eq_of_beq_eq_true hf
    exact io438 l hl
  · cases h
/-! ### slices.Collect, SortedFunc, Values -/
def s419 : Sp := .io fun a p gs => match a, p, gs with
  | [.one (.fn f [.ref 0 0])], 1, [.own [.sl false (.pair (.int .u64) (.int .u64)) none l]] => some (Nat.beq f N420 && decide (l.length ≤ 1000000), .one (.hot 1 none), [.own [.sl false Subset none l], .arr true Subset l])
  | _, _, _ => none
theorem r419 (l : List Subset.D) : runIO (orcL 6 [(N438, s438)]) noL2 2 [] F419 [.one (.fn N420 [.ref 5 0])] [.own [.sl false Subset none l]] 1 [] =
    bif Nat.beq N420 N420 && decide (l.length ≤ 1000000) then some (.one (.hot 1 none), [.own [.sl false Subset none l], .arr true Subset l]) else none := by kernel_rfl
theorem g419 : GoodS Try.prog N419 s419 := by
  refine GoodS.io (callable_of H419 (bd rfl) (by kernel_rfl)) fun a p gs r gs' hw1 hw2 h => ?_
  clear hw1 hw2
  unfold s419 at h
  split at h
  · rename_i f l
    simp only [Option.some.injEq, Prod.mk.injEq] at h
    obtain ⟨hg, rfl, rfl⟩ := h
    have hrun := r419 l
    have hf : Nat.beq f N420 = true := (Bool.and_eq_true _ _ ▸ hg).1
    obtain rfl := Nat.eq_of_beq_eq_true hf
    rw [hg] at hrun
    exact goodIO1 (OrcOk.toL 6 (.cons g438 (.nil _))) H419 rfl noL2 2 [] (noLoops2 (by kernel_rfl)) [.one (.fn N420 [.ref 0 0])] [.own [.sl false Subset none l]] 1
      (ys := [.one (.fn N420 [.ref 5 0])]) (hs := [.own [.sl false Subset none l]]) rfl rfl rfl (Nat.le_refl 1) (by show 1 ≤ _; decide) (Nat.le_succ 1) [] hrun (fun x hx => by cases hx; decide)
  · cases h
def s394 : Sp := .io fun a p gs => match a, p, gs with
  | [.one (.fn f [.ref 0 0]), .one (.fn g [])], 1, [.own [.sl false (.pair (.int .u64) (.int .u64)) none l]] => some ((Nat.beq f N420 && Nat.beq g N396) && decide (l.length ≤ 1000000), .one (.hot 1 none), [.own [.sl false Subset none l], .arr true Subset (sortQ l)])
  | _, _, _ => none
theorem r394 (l : List Subset.D) : runIO (orcL 13 [(N419, s419), (N392, s392)]) noL2 2 [] F394 [.one (.fn N420 [.ref 12 0]), .one (.fn N396 [])] [.own [.sl false Subset none l]] 1 [] =
    bif Nat.beq N420 N420 && decide (l.length ≤ 1000000) then bif (Nat.beq N396 N393 || Nat.beq N396 N396) && decide (l.length ≤ 1000000) then some (.one (.hot 1 none), [.own [.sl false Subset none l], .arr true Subset (sortQ l)]) else none else none := by kernel_rfl
theorem g394 : GoodS Try.prog N394 s394 := by
  refine GoodS.io (callable_of H394 (bd rfl) (by kernel_rfl)) fun a p gs r gs' hw1 hw2 h => ?_
  clear hw1 hw2
  unfold s394 at h
  split at h
  · rename_i f g l
    simp only [Option.some.injEq, Prod.mk.injEq, Bool.and_eq_true, decide_eq_true_eq] at h
    obtain ⟨⟨⟨hf, hg⟩, hl⟩, rfl, rfl⟩ := h
    obtain rfl := Nat.eq_of_beq_eq_true hf
    obtain rfl := Nat.eq_of_beq_eq_true hg
    have hrun := r394 l
    rw [decide_eq_true hl, show (Nat.beq N420 N420 && true) = true from rfl, show ((Nat.beq N396 N393 || Nat.beq N396 N396) && true) = true from rfl] at hrun
    exact goodIO1 (OrcOk.toL 13 (.cons g419 (.cons g392 (.nil _)))) H394 rfl noL2 2 [] (noLoops2 (by kernel_rfl)) [.one (.fn N420 [.ref 0 0]), .one (.fn N396 [])] [.own [.sl false Subset none l]] 1
      (ys := [.one (.fn N420 [.ref 12 0]), .one (.fn N396 [])]) (hs := [.own [.sl false Subset none l]]) rfl rfl rfl (Nat.le_refl 1) (by show 2 ≤ _; decide) (Nat.le_succ 1) [] hrun (fun x hx => by cases hx; decide)
  · cases h
def s395 : Sp := .io fun a p gs => match a, p, gs with
  | [.one (.sl false (.pair (.int .u64) (.int .u64)) none l)], 0, [] => some (true, .one (.fn N420 [.ref 0 0]), [.own [.sl false Subset none l]])
  | _, _, _ => none
theorem r395 (l : List Subset.D) : runIO (orc []) noL2 1 [] F395 [.one (.sl false Subset none l)] [] 0 [] = some (.one (.fn N420 [.ref 0 0]), [.own [.sl false Subset none l]]) := by kernel_rfl
theorem g395 : GoodS Try.prog N395 s395 := by
  refine GoodS.io (callable_of H395 (bd rfl) (by kernel_rfl)) fun a p gs r gs' hw1 hw2 h => ?_
  clear hw1 hw2
  unfold s395 at h
  split at h
  · rename_i l
    simp only [Option.some.injEq, Prod.mk.injEq, true_and] at h
    obtain ⟨rfl, rfl⟩ := h
    exact goodIO0 (.nil _) H395 rfl noL2 1 [] (noLoops2 (by kernel_rfl)) [.one (.sl false Subset none l)] rfl (by show 1 ≤ _; decide) [] (r395 l)
  · cases h
def Γ359 : Orc := orcL 7 [(N395, s395), (N394, s394)]
theorem r359 (l : List Subset.D) : runG Γ359 noL 2 [] F359 [.one (.sl false Subset none l)] [.sl true Subset] =
    bif (Nat.beq N420 N420 && Nat.beq N396 N396) && decide (l.length ≤ 1000000) then some (.one (.sl true Subset none (sortQ l))) else none := by kernel_rfl
def s359 : Sp := .fn [.v (.sl Subset)] fun l => (decide (l.length ≤ 1000000), .one (.sl true Subset none (sortQ l)))
theorem g359 : GoodS Try.prog N359 s359 := by
  refine goodG (OrcOk.toL 7 (.cons g395 (.cons g394 (.nil _)))) H359 rfl (by kernel_rfl) noL 2 [] (noLoops (by kernel_rfl)) [.v (.sl Subset)] (by decide) [.sl true Subset] _ (fun l r hw h => ?_) (fun x hx => by cases hx; decide)
  simp only [Prod.mk.injEq] at h
  obtain ⟨hl, rfl⟩ := h
  refine (r359 l).trans ?_
  rw [hl]; rfl
/-! ### layer.Cover -/
def Γ322 : Orc := orc [(N348, s348), (N356, s356), (N357, s357), (N358, s358), (N359, s359)]
abbrev live322 : List (Nat × Dir) := [(0, .keep), (6, .arr Subset), (7, .keep), (40, .keep), (41, .keep), (42, .keep)]
def vs322 (h : Int) (out : List Subset.D) (e : Int) (c : List Subset.D) (n i : Int) : List AV := [.one (.int .i64 h), .arr true Subset out, .one (.int .i64 e), .one (.sl true Subset none c), .one (.int .i64 n), .one (.int .i64 i)]
noncomputable abbrev lo322 (Λ : Lam AV) (K : AE → List AV → Option AV) (fuel : Nat) (vs : List AV) : Option AV := loopN (aexec tb Γ322 Λ ⟨61, 0, [(0, live322)]⟩ (loop1 F322).2 0) 61 0 live322 K fuel vs
theorem step322 (h : Int) (out : List Subset.D) (e : Int) (c : List Subset.D) (n i : Int) (Λ : Lam AV) (K : AE → List AV → Option AV) (fuel : Nat) : lo322 Λ K (fuel + 1) (vs322 h out e c n i) =
    bif decide (i < n) then bif inB i c.length then bif (splitI h (sAt c i)).2 != 0 then K .ret (vs322 h [] (splitI h (sAt c i)).2 c n i) else
      bif decide ((out.length + (splitI h (sAt c i)).1.length) * 16 ≤ 140737488355328) then lo322 Λ K fuel (vs322 h (out ++ (splitI h (sAt c i)).1) e c n (IntKind.i64.wrap (i + 1))) else none else none
    else K (.exit 0) (vs322 h out e c n i) := by kernel_rfl
/-- Where the first one that cannot be parted is. -/
def partsJ (a : Int) : List Subset.D → Nat → Nat
  | [], j => j
  | s :: r, j => bif (splitI a s).2 != 0 then j else partsJ a r (j + 1)
def partsX (a : Int) (c : List Subset.D) : Bool := c.any fun s => (splitI a s).2 != 0
def partsF (a : Int) (c : List Subset.D) : List Subset.D := c.flatMap fun s => (splitI a s).1
theorem partsI_eq (a : Int) : ∀ (c out : List Subset.D), partsI a c out = bif partsX a c then none else some (out ++ partsF a c) := by
  intro c
  induction c with
  | nil => intro out; rw [partsI]; show _ = some (out ++ []); rw [List.append_nil]
  | cons s r ih =>
    intro out
    rw [partsI]
    unfold partsX partsF at *
    rw [List.any_cons, List.flatMap_cons]
    cases (splitI a s).2 != 0 with
    | true => rfl
    | false =>
      simp only [cond_false, Bool.false_or]
      rw [ih, List.append_assoc]
theorem split_len (a : Int) (s : Subset.D) : (splitI a s).1.length ≤ 2 := by
  unfold splitI
  cases (useI a s).2 != 0 with
  | true => exact Nat.zero_le _
  | false => cases (bif (useI a s).1 then true else s.2 == 0) <;> simp
def Λ322 : Lam AV := fun _ vs K =>
  match vs with
  | [.one (.int .i64 h), .arr true (.pair (.int .u64) (.int .u64)) [], .one (.int .i64 e), .one (.sl true (.pair (.int .u64) (.int .u64)) none c), .one (.int .i64 n), .one (.int .i64 0)] =>
    bif decide (n = c.length) && decide (c.length ≤ 1000000) then
      bif partsX h c then K .ret (vs322 h [] (partsE h c) c n (partsJ h c 0)) else K (.exit 0) (vs322 h (partsF h c) e c n n)
    else none
  | _ => none
theorem go322 {ρ : Type} {h : Int} {c : List Subset.D} (hl : c.length ≤ 1000000) {F : Nat → List Subset.D → Int → Option ρ} {R : Int → Int → Option ρ} {X : List Subset.D → Int → Option ρ} {out : ρ}
    (step : ∀ fuel o i, F (fuel + 1) o i = bif decide (i < (c.length : Int)) then bif inB i c.length then bif (splitI h (sAt c i)).2 != 0 then R (splitI h (sAt c i)).2 i else
      bif decide ((o.length + (splitI h (sAt c i)).1.length) * 16 ≤ 140737488355328) then F fuel (o ++ (splitI h (sAt c i)).1) (IntKind.i64.wrap (i + 1)) else none else none else X o i) :
    ∀ (m j : Nat) (o : List Subset.D), j + m = c.length → o.length ≤ 2 * j → (bif partsX h (c.drop j) then R (partsE h (c.drop j)) (partsJ h (c.drop j) j) else X (o ++ partsF h (c.drop j)) c.length) = some out → ∃ fuel, F fuel o (j : Int) = some out := by
  intro m
  induction m with
  | zero =>
    intro j o hj ho h'
    obtain rfl : j = c.length := by omega
    rw [List.drop_length] at h'
    refine ⟨1, ?_⟩
    rw [step, nlt_dec]
    have h' : X (o ++ []) c.length = some out := h'
    rw [List.append_nil] at h'
    exact h'
  | succ m ih =>
    intro j o hj ho h'
    have hlt : j < c.length := by omega
    rw [sAt_drop hlt] at h'
    have hs2 := split_len h (sAt c (j : Int))
    unfold partsX partsF at h'
    rw [List.any_cons, List.flatMap_cons, partsE, partsJ] at h'
    cases hc : (splitI h (sAt c (j : Int))).2 != 0 with
    | true =>
      rw [hc] at h'
      refine ⟨1, ?_⟩
      rw [step, lt_dec hlt, inB_lt hlt, hc]
      exact h'
    | false =>
      rw [hc] at h'
      simp only [Bool.false_or, cond_false] at h'
      obtain ⟨fuel, hf⟩ := ih (j + 1) (o ++ (splitI h (sAt c (j : Int))).1) (by omega) (by rw [List.length_append]; omega) (by
        unfold partsX partsF
        rw [List.append_assoc]; exact h')
      refine ⟨fuel + 1, ?_⟩
      rw [step, lt_dec hlt, inB_lt hlt, hc, decide_eq_true (show (o.length + (splitI h (sAt c (j : Int))).1.length) * 16 ≤ 140737488355328 by omega), wrap64 (n := (j : Int) + 1) (by omega) (by omega)]
      exact hf
theorem loop322 : LoopP tb Γ322 Λ322 ⟨61, 0, [(0, live322)]⟩ (loop1 F322) := by
  intro vs K out h
  have hcur : (loop1 F322).1 = 0 := by kernel_rfl
  rw [hcur] at h ⊢
  unfold Λ322 at h
  split at h
  · rename_i a e c n
    cases hc : decide (n = c.length) && decide (c.length ≤ 1000000) with
    | false => rw [hc] at h; cases h
    | true =>
      rw [hc] at h
      simp only [Bool.and_eq_true, decide_eq_true_eq] at hc
      obtain ⟨rfl, hl⟩ := hc
      exact go322 (h := a) hl (F := fun fuel o i => lo322 Λ322 K fuel (vs322 a o e c c.length i)) (R := fun e' i => K .ret (vs322 a [] e' c c.length i)) (X := fun o i => K (.exit 0) (vs322 a o e c c.length i))
        (fun fuel o i => step322 a o e c c.length i Λ322 K fuel) c.length 0 [] (by omega) (by simp) h
  · cases h
theorem r322 (h k : Int) (l : List Int) : run Γ322 Λ322 [(0, live322)] F322 [.one (.int .i64 h), .one (.int .i64 k), .one (.sl false U none l)] [.sl true Subset, .id] =
    bif schE h k != 0 then some (rls2 [] (schE h k)) else bif k == 1 then bif decide ((hangI h l).1.length ≤ 1000000) then some (rls2 (wholeS (hangI h l).1) (hangI h l).2) else none else
    bif (bif (diffI h l).2 != 0 then true else k == 2) then some (rls2 (diffI h l).1 (diffI h l).2) else
    bif decide (((diffI h l).1.length : Int) = (diffI h l).1.length) && decide ((diffI h l).1.length ≤ 1000000) then bif partsX h (diffI h l).1 then some (rls2 [] (partsE h (diffI h l).1)) else
      bif decide ((partsF h (diffI h l).1).length ≤ 1000000) then some (rls2 (sortQ (partsF h (diffI h l).1)) 0) else none else none := by kernel_rfl
theorem below_ok {a n : Int} {l : List Int} (h1 : ((belowR a l n).2 != 0) = false) : lokB a l = true := by
  unfold belowR at h1
  cases hb : belowB a l n with
  | true => rw [hb] at h1; cases h1
  | false =>
    unfold belowB at hb
    cases h3 : (leavesI a n).2 != 0 with
    | true => rw [h3] at hb; cases hb
    | false => rw [h3] at hb; exact lchk_ok hb
theorem diff_len {a : Int} {l : List Int} (hu : ∀ x ∈ l, IntKind.u64.has x) : (diffI a l).1.length ≤ 2048 := by
  cases h1 : (belowR a l 1).2 != 0 with
  | true => unfold diffI; rw [h1]; exact Nat.zero_le _
  | false =>
    have h2 := below_ok h1
    obtain ⟨c, c1, c2⟩ := diff_law (setN_of h2 hu) h2
    rw [c1, List.length_map]; exact c2.len
theorem partsF_len (a : Int) : ∀ c : List Subset.D, (partsF a c).length ≤ 2 * c.length := by
  intro c
  induction c with
  | nil => exact Nat.le_refl 0
  | cons s r ih =>
    have := split_len a s
    unfold partsF at *
    rw [List.flatMap_cons, List.length_append, List.length_cons]
    omega
def s322 : Sp := .fn [.v I, .v I, .v (.sl U)] fun x => (true, rls2 (coverI x.1 x.2.1 x.2.2).1 (coverI x.1 x.2.1 x.2.2).2)
theorem g322 : GoodS Try.prog N322 s322 := by
  refine good (OrcOk.cons g348 (.cons g356 (.cons g357 (.cons g358 (.cons g359 (.nil _)))))) H322 rfl (by kernel_rfl) Λ322 [(0, live322)] (oneLoop (p0 := loop1 F322) (by kernel_rfl) loop322) [.v I, .v I, .v (.sl U)] (by decide) [.sl true Subset, .id] _ fun x r hw e => ?_
  obtain ⟨h, k, l⟩ := x
  cases e
  refine (r322 h k l).trans ?_
  show _ = some (rls2 (coverI h k l).1 (coverI h k l).2)
  have hu : ∀ x ∈ l, IntKind.u64.has x := hw.2.2.2
  have b1 := hang_len h l
  have b2 := diff_len (a := h) hu
  have b3 := partsF_len h (diffI h l).1
  unfold coverI
  rw [partsI_eq, decide_eq_true (show (hangI h l).1.length ≤ 1000000 by omega), decide_eq_true (show (diffI h l).1.length ≤ 1000000 by omega), decide_eq_true (show (partsF h (diffI h l).1).length ≤ 1000000 by omega)]
  simp only [decide_true, Bool.and_self, cond_true, List.nil_append]
  cases schE h k != 0 with
  | true => rfl
  | false =>
    cases k == 1 with
    | true => rfl
    | false =>
      cases (bif (diffI h l).2 != 0 then true else k == 2) with
      | true => rfl
      | false => cases partsX h (diffI h l).1 <;> rfl
end Go.AM.Seat
